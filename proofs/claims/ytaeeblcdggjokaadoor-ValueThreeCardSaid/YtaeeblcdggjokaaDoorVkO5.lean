/- The order of values is one: plain Lean. -/
import Derived.Test.YtaeeblcdggjokaaDoorVkO4
namespace Go.Proofs.YtaeeblcdggjokaaDoor.Vk
open Go Go.Ab Go.RowKit
set_option maxRecDepth 100000
set_option linter.unusedVariables false
set_option linter.unusedSimpArgs false
set_option linter.unusedSectionVars false
set_option linter.constructorNameAsVariable false
/-- What a comparison has to be at one of those that stand in the order. -/
structure OrdAt {α : Type} (c : α → α → Int) (S : α → Prop) (x : α) : Prop where
  rng : ∀ y, S y → c x y = -1 ∨ c x y = 0 ∨ c x y = 1
  anti : ∀ y, S y → c y x = - c x y
  zero : ∀ y, S y → c x y = 0 → x = y
  trans : ∀ y z, S y → S z → c x y = -1 → c y z ≤ 0 → c x z = -1
theorem cmpZ_lt {a b : Int} : cmpZ a b = -1 ↔ a < b := by unfold cmpZ; split <;> (try split) <;> omega
theorem cmpZ_eq {a b : Int} : cmpZ a b = 0 ↔ a = b := by unfold cmpZ; split <;> (try split) <;> omega
theorem cmpZ_le {a b : Int} : cmpZ a b ≤ 0 ↔ a ≤ b := by unfold cmpZ; split <;> (try split) <;> omega
theorem cmpZ_rng (a b : Int) : cmpZ a b = -1 ∨ cmpZ a b = 0 ∨ cmpZ a b = 1 := by unfold cmpZ; split <;> (try split) <;> omega
theorem cmpZ_anti (a b : Int) : cmpZ b a = - cmpZ a b := by unfold cmpZ; split <;> (try split) <;> (try split) <;> omega
/-- By a number that tells all. -/
theorem ord_key {α : Type} {c : α → α → Int} {S : α → Prop} (f : α → Int) (hc : ∀ x y, S x → S y → c x y = cmpZ (f x) (f y)) (hi : ∀ x y, S x → S y → f x = f y → x = y) {x : α} (hx : S x) : OrdAt c S x where
  rng y hy := by rw [hc x y hx hy]; exact cmpZ_rng _ _
  anti y hy := by rw [hc x y hx hy, hc y x hy hx]; exact cmpZ_anti _ _
  zero y hy h := by rw [hc x y hx hy, cmpZ_eq] at h; exact hi x y hx hy h
  trans y z hy hz h1 h2 := by
    rw [hc x y hx hy, cmpZ_lt] at h1
    rw [hc y z hy hz, cmpZ_le] at h2
    rw [hc x z hx hz, cmpZ_lt]; omega
theorem ltb {a b : UInt8} : a < b ↔ a.toNat < b.toNat := UInt8.lt_iff_toNat_lt
theorem ord_bytes : ∀ l : List UInt8, OrdAt Lib.compareBytes (fun _ => True) l
  | [] => {
    rng := fun y _ => by cases y <;> simp [Lib.compareBytes]
    anti := fun y _ => by cases y <;> simp [Lib.compareBytes]
    zero := fun y _ h => by cases y with | nil => rfl | cons _ _ => simp [Lib.compareBytes] at h
    trans := fun y z _ _ h1 h2 => by
      cases z with
      | nil => cases y <;> simp [Lib.compareBytes] at h1 h2
      | cons _ _ => rfl }
  | a :: us => by
    have ih := ord_bytes us
    have step : ∀ (x y : UInt8) (xs ys : List UInt8), Lib.compareBytes (x :: xs) (y :: ys) = if x < y then -1 else if y < x then 1 else Lib.compareBytes xs ys := fun _ _ _ _ => rfl
    refine ⟨fun y _ => ?_, fun y _ => ?_, fun y _ h => ?_, fun y z _ _ h1 h2 => ?_⟩
    · cases y with
      | nil => simp [Lib.compareBytes]
      | cons b bs => rw [step]; have := ih.rng bs trivial; split <;> (try split) <;> omega
    · cases y with
      | nil => simp [Lib.compareBytes]
      | cons b bs =>
        rw [step, step]
        have := ih.anti bs trivial
        simp only [ltb]
        split <;> (try split) <;> (try split) <;> (try split) <;> omega
    · cases y with
      | nil => simp [Lib.compareBytes] at h
      | cons b bs =>
        rw [step] at h
        simp only [ltb] at h
        split at h
        · omega
        · split at h
          · omega
          · have e : a = b := UInt8.toNat_inj.1 (by omega)
            rw [e, ih.zero bs trivial h]
    · cases y with
      | nil => simp [Lib.compareBytes] at h1
      | cons b bs =>
        cases z with
        | nil => simp [Lib.compareBytes] at h2
        | cons c cs =>
          rw [step] at h1 h2 ⊢
          simp only [ltb] at h1 h2 ⊢
          have k1 := ih.trans bs cs trivial trivial
          by_cases e1 : a.toNat < b.toNat
          · by_cases e2 : b.toNat < c.toNat
            · rw [if_pos (by omega)]
            · rw [if_neg e2] at h2
              split at h2
              · omega
              · rw [if_pos (by omega)]
          · rw [if_neg e1] at h1
            split at h1
            · omega
            · by_cases e2 : b.toNat < c.toNat
              · rw [if_pos (by omega)]
              · rw [if_neg e2] at h2
                split at h2
                · omega
                · rw [if_neg (by omega), if_neg (by omega)]
                  exact k1 h1 h2
theorem ord_cmpS (a : ByteArray) : OrdAt cmpS (fun _ => True) a where
  rng y _ := (ord_bytes a.data.toList).rng _ trivial
  anti y _ := (ord_bytes a.data.toList).anti _ trivial
  zero y _ h := ByteArray.ext (Array.toList_inj.1 ((ord_bytes a.data.toList).zero _ trivial h))
  trans y z _ _ h1 h2 := (ord_bytes a.data.toList).trans _ _ trivial trivial h1 h2
theorem ord_cmpZ (a : Int) : OrdAt cmpZ (fun _ => True) a := ord_key (fun x => x) (fun _ _ _ _ => rfl) (fun _ _ _ _ h => h) trivial
/-- Rows of what stands in an order. -/
theorem ord_rows {α : Type} {c : α → α → Int} {S : α → Prop} : ∀ l : List α, (∀ x, x ∈ l → OrdAt c S x ∧ c x x = 0) → OrdAt (rowsG c) (fun m => ∀ x, x ∈ m → S x) l
  | [], _ => {
    rng := fun y _ => by cases y <;> simp [rowsG]
    anti := fun y _ => by cases y <;> simp [rowsG]
    zero := fun y _ h => by cases y with | nil => rfl | cons _ _ => simp [rowsG] at h
    trans := fun y z _ _ h1 h2 => by
      cases z with
      | nil => cases y <;> simp [rowsG] at h1 h2
      | cons _ _ => rfl }
  | a :: us, h => by
    have ih := ord_rows us fun x hx => h x (List.mem_cons_of_mem _ hx)
    obtain ⟨ha, h0⟩ := h a (List.mem_cons_self ..)
    have step : ∀ (x y : α) (xs ys : List α), rowsG c (x :: xs) (y :: ys) = if c x y = 0 then rowsG c xs ys else c x y := fun _ _ _ _ => rfl
    refine ⟨fun y hy => ?_, fun y hy => ?_, fun y hy k => ?_, fun y z hy hz h1 h2 => ?_⟩
    · cases y with
      | nil => simp [rowsG]
      | cons b bs =>
        rw [step]
        have := ih.rng bs fun x hx => hy x (List.mem_cons_of_mem _ hx)
        have := ha.rng b (hy b (List.mem_cons_self ..))
        split <;> omega
    · cases y with
      | nil => simp [rowsG]
      | cons b bs =>
        rw [step, step]
        have k1 := ih.anti bs fun x hx => hy x (List.mem_cons_of_mem _ hx)
        have k2 := ha.anti b (hy b (List.mem_cons_self ..))
        split <;> split <;> omega
    · cases y with
      | nil => simp [rowsG] at k
      | cons b bs =>
        rw [step] at k
        split at k
        · rename_i e
          rw [ha.zero b (hy b (List.mem_cons_self ..)) e, ih.zero bs (fun x hx => hy x (List.mem_cons_of_mem _ hx)) k]
        · omega
    · cases y with
      | nil => simp [rowsG] at h1
      | cons b bs =>
        cases z with
        | nil => simp [rowsG] at h2
        | cons d ds =>
          rw [step] at h1 h2 ⊢
          have sb := hy b (List.mem_cons_self ..)
          have sd := hz d (List.mem_cons_self ..)
          have k1 := ih.trans bs ds (fun x hx => hy x (List.mem_cons_of_mem _ hx)) (fun x hx => hz x (List.mem_cons_of_mem _ hx))
          by_cases e1 : c a b = 0
          · rw [if_pos e1] at h1
            obtain rfl := ha.zero b sb e1
            by_cases e2 : c a d = 0
            · rw [if_pos e2] at h2 ⊢; exact k1 h1 h2
            · rw [if_neg e2] at h2 ⊢; have := ha.rng d sd; omega
          · rw [if_neg e1] at h1
            by_cases e2 : c b d = 0
            · have := ha.trans b d sb sd h1 (by omega)
              rw [if_neg (by omega)]; exact this
            · rw [if_neg e2] at h2
              have := ha.trans b d sb sd h1 h2
              rw [if_neg (by omega)]; exact this
theorem OrdAt.less {α : Type} {c : α → α → Int} {S T : α → Prop} {x : α} (h : OrdAt c S x) (hs : ∀ y, T y → S y) : OrdAt c T x where
  rng y hy := h.rng y (hs y hy)
  anti y hy := h.anti y (hs y hy)
  zero y hy := h.zero y (hs y hy)
  trans y z hy hz := h.trans y z (hs y hy) (hs z hz)
theorem ord_pair {c : Val → Val → Int} {S : Val → Prop} {p : ByteArray × Val} (h : OrdAt c S p.2) : OrdAt (pairC c) (fun q => S q.2) p := by
  have hb := ord_cmpS p.1
  refine ⟨fun y hy => ?_, fun y hy => ?_, fun y hy k => ?_, fun y z hy hz h1 h2 => ?_⟩
  · unfold pairC; have := hb.rng y.1 trivial; have := h.rng y.2 hy; split <;> omega
  · unfold pairC; have := hb.anti y.1 trivial; have := h.anti y.2 hy; split <;> split <;> omega
  · unfold pairC at k
    split at k
    · rename_i e
      exact Prod.ext (hb.zero _ trivial e) (h.zero _ hy k)
    · omega
  · unfold pairC at h1 h2 ⊢
    by_cases e1 : cmpS p.1 y.1 = 0
    · rw [if_pos e1] at h1
      have e := hb.zero _ trivial e1
      rw [e]
      by_cases e2 : cmpS y.1 z.1 = 0
      · rw [if_pos e2] at h2 ⊢; exact h.trans _ _ hy hz h1 h2
      · rw [if_neg e2] at h2 ⊢
        have := (ord_cmpS y.1).rng z.1 trivial
        omega
    · rw [if_neg e1] at h1
      have k : cmpS y.1 z.1 ≤ 0 := by
        by_cases e2 : cmpS y.1 z.1 = 0
        · omega
        · rw [if_neg e2] at h2; exact h2
      have := hb.trans y.1 z.1 trivial trivial h1 k
      rw [if_neg (by omega)]; exact this
/-! ### Numbers -/
def dvA : Nat → List UInt8 → Nat
  | acc, [] => acc
  | acc, x :: r => dvA (acc * 10 + (x.toNat - 48)) r
abbrev dv (l : List UInt8) : Nat := dvA 0 l
def Dig (l : List UInt8) : Prop := ∀ x, x ∈ l → 48 ≤ x.toNat ∧ x.toNat ≤ 57
theorem dvA_eq : ∀ (l : List UInt8) (acc : Nat), dvA acc l = acc * 10 ^ l.length + dv l
  | [], acc => by rw [List.length_nil, Nat.pow_zero, Nat.mul_one]; rfl
  | x :: r, acc => by
    show dvA (acc * 10 + (x.toNat - 48)) r = _ + dvA (0 * 10 + (x.toNat - 48)) r
    rw [dvA_eq r (acc * 10 + (x.toNat - 48)), dvA_eq r (0 * 10 + (x.toNat - 48)), List.length_cons, Nat.pow_succ, Nat.zero_mul, Nat.zero_add, Nat.add_mul, Nat.mul_assoc acc 10, Nat.mul_comm 10]
    omega
theorem dv_cons (x : UInt8) (r : List UInt8) : dv (x :: r) = (x.toNat - 48) * 10 ^ r.length + dv r := by
  show dvA (0 * 10 + (x.toNat - 48)) r = _
  rw [dvA_eq, Nat.zero_mul, Nat.zero_add]
theorem dv_append : ∀ (a b : List UInt8), dv (a ++ b) = dv a * 10 ^ b.length + dv b
  | [], b => by show dv b = 0 * _ + dv b; omega
  | x :: r, b => by
    rw [List.cons_append, dv_cons, dv_cons, dv_append r b, List.length_append, Nat.pow_add, Nat.add_mul, Nat.mul_assoc]
    omega
theorem dv_zeros : ∀ k, dv (List.replicate k 48) = 0
  | 0 => rfl
  | k + 1 => by rw [List.replicate_succ, dv_cons, dv_zeros k]; simp
theorem dv_lt : ∀ (l : List UInt8), Dig l → dv l < 10 ^ l.length
  | [], _ => by show 0 < 10 ^ 0; decide
  | x :: r, h => by
    have h1 := h x (List.mem_cons_self ..)
    have h2 := dv_lt r fun y hy => h y (List.mem_cons_of_mem _ hy)
    rw [dv_cons, List.length_cons, Nat.pow_succ]
    have : (x.toNat - 48) * 10 ^ r.length ≤ 9 * 10 ^ r.length := Nat.mul_le_mul_right _ (by omega)
    omega
/-- Digits of one length are held against each other as their numbers are. -/
theorem cmp_dv : ∀ (a b : List UInt8), a.length = b.length → Dig a → Dig b → Lib.compareBytes a b = cmpZ (dv a) (dv b)
  | [], [], _, _, _ => by simp [Lib.compareBytes, cmpZ]
  | [], _ :: _, h, _, _ => by simp at h
  | _ :: _, [], h, _, _ => by simp at h
  | x :: r, y :: t, h, ha, hb => by
    have hl : r.length = t.length := by simpa using h
    have ih := cmp_dv r t hl (fun z hz => ha z (List.mem_cons_of_mem _ hz)) (fun z hz => hb z (List.mem_cons_of_mem _ hz))
    have hx := ha x (List.mem_cons_self ..)
    have hy := hb y (List.mem_cons_self ..)
    have l1 := dv_lt r fun z hz => ha z (List.mem_cons_of_mem _ hz)
    have l2 := dv_lt t fun z hz => hb z (List.mem_cons_of_mem _ hz)
    rw [hl] at l1
    rw [dv_cons, dv_cons, hl]
    show (if x < y then -1 else if y < x then 1 else Lib.compareBytes r t) = _
    simp only [ltb]
    generalize 10 ^ t.length = T at *
    by_cases e1 : x.toNat < y.toNat
    · rw [if_pos e1]
      have : (x.toNat - 48 + 1) * T ≤ (y.toNat - 48) * T := Nat.mul_le_mul_right _ (by omega)
      rw [Nat.add_mul] at this
      exact (cmpZ_lt.2 (by omega)).symm
    · rw [if_neg e1]
      by_cases e2 : y.toNat < x.toNat
      · rw [if_pos e2]
        have : (y.toNat - 48 + 1) * T ≤ (x.toNat - 48) * T := Nat.mul_le_mul_right _ (by omega)
        rw [Nat.add_mul] at this
        have := (cmpZ_lt (a := ((y.toNat - 48) * T + dv t : Nat)) (b := ((x.toNat - 48) * T + dv r : Nat))).2 (by omega)
        have h2 := cmpZ_anti (((y.toNat - 48) * T + dv t : Nat) : Int) (((x.toNat - 48) * T + dv r : Nat) : Int)
        omega
      · rw [if_neg e2, ih]
        have e : x.toNat - 48 = y.toNat - 48 := by omega
        rw [e]
        unfold cmpZ
        split <;> split <;> (try split) <;> (try split) <;> omega
theorem dig_dv_inj {a b : List UInt8} (h : a.length = b.length) (ha : Dig a) (hb : Dig b) (he : dv a = dv b) : a = b :=
  (ord_bytes a).zero b trivial (by rw [cmp_dv a b h ha hb, cmpZ_eq]; omega)
end Go.Proofs.YtaeeblcdggjokaaDoor.Vk
