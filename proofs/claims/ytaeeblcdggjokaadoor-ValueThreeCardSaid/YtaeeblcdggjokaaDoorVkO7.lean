/- The order of values is one; ValueThree. -/
import Derived.Test.YtaeeblcdggjokaaDoorVkO6
namespace Go.Proofs.YtaeeblcdggjokaaDoor.Vk
open Go Go.Ab Go.RowKit
set_option maxRecDepth 100000
set_option linter.unusedVariables false
set_option linter.unusedSimpArgs false
set_option linter.unusedSectionVars false
set_option linter.constructorNameAsVariable false
theorem ord_map {α β : Type} {c : β → β → Int} {S : β → Prop} {T : α → Prop} (f : α → β) {x : α} (h : OrdAt c S (f x)) (hs : ∀ y, T y → S (f y)) (hi : ∀ y, T y → f x = f y → x = y) : OrdAt (fun a b => c (f a) (f b)) T x where
  rng y hy := h.rng _ (hs y hy)
  anti y hy := h.anti _ (hs y hy)
  zero y hy k := hi y hy (h.zero _ (hs y hy) k)
  trans y z hy hz := h.trans _ _ (hs y hy) (hs z hz)
theorem ord_congr {α : Type} {c c' : α → α → Int} {T : α → Prop} {x : α} (h : OrdAt c T x) (hx : T x) (he : ∀ a b, T a → T b → c' a b = c a b) : OrdAt c' T x where
  rng y hy := by rw [he x y hx hy]; exact h.rng y hy
  anti y hy := by rw [he x y hx hy, he y x hy hx]; exact h.anti y hy
  zero y hy k := by rw [he x y hx hy] at k; exact h.zero y hy k
  trans y z hy hz k1 k2 := by
    rw [he x y hx hy] at k1
    rw [he y z hy hz] at k2
    rw [he x z hx hz]
    exact h.trans y z hy hz k1 k2
def lexC {β : Type} (c : β → β → Int) (p q : ByteArray × β) : Int := if cmpS p.1 q.1 = 0 then c p.2 q.2 else cmpS p.1 q.1
theorem ord_lex {β : Type} {c : β → β → Int} {S : β → Prop} {p : ByteArray × β} (h : OrdAt c S p.2) : OrdAt (lexC c) (fun q => S q.2) p := by
  have hb := ord_cmpS p.1
  refine ⟨fun y hy => ?_, fun y hy => ?_, fun y hy k => ?_, fun y z hy hz h1 h2 => ?_⟩
  · unfold lexC; have := hb.rng y.1 trivial; have := h.rng y.2 hy; split <;> omega
  · unfold lexC; have := hb.anti y.1 trivial; have := h.anti y.2 hy; split <;> split <;> omega
  · unfold lexC at k
    split at k
    · rename_i e
      exact Prod.ext (hb.zero _ trivial e) (h.zero _ hy k)
    · omega
  · unfold lexC at h1 h2 ⊢
    by_cases e1 : cmpS p.1 y.1 = 0
    · rw [if_pos e1] at h1
      have e := hb.zero _ trivial e1
      rw [e]
      by_cases e2 : cmpS y.1 z.1 = 0
      · rw [if_pos e2] at h2 ⊢; exact h.trans _ _ hy hz h1 h2
      · rw [if_neg e2] at h2 ⊢
        have := (ord_cmpS y.1).rng z.1 trivial
        omega
    · rw [if_neg e1] at h1
      have k : cmpS y.1 z.1 ≤ 0 := by
        by_cases e2 : cmpS y.1 z.1 = 0
        · omega
        · rw [if_neg e2] at h2; exact h2
      have := hb.trans y.1 z.1 trivial trivial h1 k
      rw [if_neg (by omega)]; exact this
/-- What a formed value of a kind does not use is nothing. -/
theorem formed_plain {v : Val} (h : formedV v = true) : (v.kind ≠ 2 → v.flag = false) ∧ (v.kind ≠ 3 → v.neg = false ∧ v.dig = .empty ∧ v.exp = 0) ∧ (v.kind ≠ 4 → v.bits = 0) ∧ (v.kind ≠ 5 → v.kind ≠ 6 → v.kind ≠ 9 → v.text = .empty) ∧ (v.kind ≠ 8 → v.names = []) ∧ (v.kind ≠ 7 → v.kind ≠ 8 → v.kind ≠ 9 → v.list = []) := by
  cases v with
  | mk k f ng d e b t ns l =>
    obtain ⟨k1, k2, k3, k4, k5, k6, k7, k8, k9, k0⟩ := formedV_iff k f ng d e b t ns l
    simp only [Val.list, Val.names, Val.kind, Val.neg, Val.dig, Val.exp, Val.flag, Val.bits, Val.text]
    have n1 : ns.length = 0 ↔ ns = [] := List.length_eq_zero_iff
    have n2 : l.length = 0 ↔ l = [] := List.length_eq_zero_iff
    rw [n1, n2] at k1 k2 k3 k4 k5 k6
    rw [n1] at k7 k9
    by_cases e1 : k = 1
    · have := (k1 e1).1 h; subst e1; clear k1 k2 k3 k4 k5 k6 k7 k8 k9 k0 h; grind
    by_cases e2 : k = 2
    · have := (k2 e2).1 h; subst e2; clear k1 k2 k3 k4 k5 k6 k7 k8 k9 k0 h; grind
    by_cases e3 : k = 3
    · have := (k3 e3).1 h; subst e3; clear k1 k2 k3 k4 k5 k6 k7 k8 k9 k0 h; grind
    by_cases e4 : k = 4
    · have := (k4 e4).1 h; subst e4; clear k1 k2 k3 k4 k5 k6 k7 k8 k9 k0 h; grind
    by_cases e5 : k = 5
    · have := (k5 e5).1 h; subst e5; clear k1 k2 k3 k4 k5 k6 k7 k8 k9 k0 h; grind
    by_cases e6 : k = 6
    · have := (k6 e6).1 h; subst e6; clear k1 k2 k3 k4 k5 k6 k7 k8 k9 k0 h; grind
    by_cases e7 : k = 7
    · have := (k7 e7).1 h; subst e7; clear k1 k2 k3 k4 k5 k6 k7 k8 k9 k0 h; grind
    by_cases e8 : k = 8
    · have := (k8 e8).1 h; subst e8; clear k1 k2 k3 k4 k5 k6 k7 k8 k9 k0 h; grind
    by_cases e9 : k = 9
    · have := (k9 e9).1 h; subst e9; clear k1 k2 k3 k4 k5 k6 k7 k8 k9 k0 h; grind
    · rw [k0 e1 e2 e3 e4 e5 e6 e7 e8 e9] at h; cases h
theorem val_ext {a b : Val} (h1 : a.kind = b.kind) (h2 : a.flag = b.flag) (h3 : a.neg = b.neg) (h4 : a.dig = b.dig) (h5 : a.exp = b.exp) (h6 : a.bits = b.bits) (h7 : a.text = b.text) (h8 : a.names = b.names) (h9 : a.list = b.list) : a = b := by
  cases a; cases b
  simp only [Val.kind, Val.flag, Val.neg, Val.dig, Val.exp, Val.bits, Val.text, Val.names, Val.list] at *
  subst h1 h2 h3 h4 h5 h6 h7 h8 h9
  rfl
/-- Values of one kind. -/
def Same (k : Int) (v : Val) : Prop := good v = true ∧ v.kind = k
theorem same_eq {k : Int} {a b : Val} (ha : Same k a) (hb : Same k b) (h2 : k = 2 → a.flag = b.flag) (h3 : k = 3 → a.neg = b.neg ∧ a.dig = b.dig ∧ a.exp = b.exp) (h4 : k = 4 → a.bits = b.bits) (h5 : k = 5 ∨ k = 6 ∨ k = 9 → a.text = b.text) (h8 : k = 8 → a.names = b.names) (h9 : k = 7 ∨ k = 8 ∨ k = 9 → a.list = b.list) : a = b := by
  obtain ⟨a2, a3, a4, a5, a8, a9⟩ := formed_plain (good_iff.1 ha.1).1
  obtain ⟨b2, b3, b4, b5, b8, b9⟩ := formed_plain (good_iff.1 hb.1).1
  rw [ha.2] at a2 a3 a4 a5 a8 a9
  rw [hb.2] at b2 b3 b4 b5 b8 b9
  refine val_ext (ha.2.trans hb.2.symm) ?_ ?_ ?_ ?_ ?_ ?_ ?_ ?_
  · by_cases e : k = 2
    · exact h2 e
    · rw [a2 e, b2 e]
  · by_cases e : k = 3
    · exact (h3 e).1
    · rw [(a3 e).1, (b3 e).1]
  · by_cases e : k = 3
    · exact (h3 e).2.1
    · rw [(a3 e).2.1, (b3 e).2.1]
  · by_cases e : k = 3
    · exact (h3 e).2.2
    · rw [(a3 e).2.2, (b3 e).2.2]
  · by_cases e : k = 4
    · exact h4 e
    · rw [a4 e, b4 e]
  · by_cases e : k = 5 ∨ k = 6 ∨ k = 9
    · exact h5 e
    · rw [a5 (by omega) (by omega) (by omega), b5 (by omega) (by omega) (by omega)]
  · by_cases e : k = 8
    · exact h8 e
    · rw [a8 e, b8 e]
  · by_cases e : k = 7 ∨ k = 8 ∨ k = 9
    · exact h9 e
    · rw [a9 (by omega) (by omega) (by omega), b9 (by omega) (by omega) (by omega)]
theorem zip_inj : ∀ {a a' : List ByteArray} {b b' : List Val}, a.length = b.length → a'.length = b'.length → a.zip b = a'.zip b' → a = a' ∧ b = b'
  | [], [], [], [], _, _, _ => ⟨rfl, rfl⟩
  | [], x :: r, [], y :: t, _, _, h => by simp at h
  | x :: r, [], y :: t, [], _, _, h => by simp at h
  | x :: r, x' :: r', y :: t, y' :: t', h1, h2, h => by
    simp only [List.zip_cons_cons, List.cons.injEq, Prod.mk.injEq] at h
    obtain ⟨⟨rfl, rfl⟩, h⟩ := h
    obtain ⟨rfl, rfl⟩ := zip_inj (by simpa using h1) (by simpa using h2) h
    exact ⟨rfl, rfl⟩
  | [], _, _ :: _, _, h, _, _ => by simp at h
  | _ :: _, _, [], _, h, _, _ => by simp at h
  | _, [], _, _ :: _, _, h, _ => by simp at h
  | _, _ :: _, _, [], _, h, _ => by simp at h
def flagN (v : Val) : Int := if v.flag then 1 else 0
/-- The order of values is one. -/
theorem ord_val : ∀ v, good v = true → OrdAt orderV (fun w => good w = true) v := by
  apply val_ind
  intro v ih hv
  have hl : ∀ x, x ∈ v.list → OrdAt orderV (fun w => good w = true) x ∧ orderV x x = 0 := fun x hx => ⟨ih x hx (good_mem hv hx), order_self x (good_mem hv hx)⟩
  have sv : Same v.kind v := ⟨hv, rfl⟩
  have key : OrdAt orderV (Same v.kind) v := by
    by_cases e2 : v.kind = 2
    · refine ord_congr (c := fun a b => cmpZ (flagN a) (flagN b)) (ord_map flagN (ord_cmpZ _) (fun _ _ => trivial) fun y hy h => ?_) sv fun a b ha hb => ?_
      · refine same_eq sv hy (fun _ => ?_) (fun h => by omega) (fun h => by omega) (fun h => by omega) (fun h => by omega) (fun h => by omega)
        unfold flagN at h
        cases hf : v.flag <;> cases hg : y.flag <;> simp [hf, hg] at h <;> rfl
      · rw [orderV_eq, ha.2, hb.2, if_neg (by omega), if_neg (by omega), if_pos e2]
        unfold flagN cmpZ
        cases a.flag <;> cases b.flag <;> simp
    by_cases e3 : v.kind = 3
    · have hn : ∀ y, Same v.kind y → numOk (y.neg, y.dig, y.exp) := fun y hy => (formed_parts (good_iff.1 hy.1).1).2.2 (hy.2.trans e3)
      refine ord_congr (c := fun a b => numC (a.neg, a.dig, a.exp) (b.neg, b.dig, b.exp)) (ord_map (fun a : Val => (a.neg, a.dig, a.exp)) (ord_num (hn v sv)) hn fun y hy h => ?_) sv fun a b ha hb => ?_
      · simp only [Prod.mk.injEq] at h
        exact same_eq sv hy (fun h => by omega) (fun _ => h) (fun h => by omega) (fun h => by omega) (fun h => by omega) (fun h => by omega)
      · rw [orderV_eq, ha.2, hb.2, if_neg (by omega), if_neg (by omega), if_neg e2, if_pos e3]
        rfl
    by_cases e4 : v.kind = 4
    · refine ord_congr (c := fun a b => cmpZ a.bits b.bits) (ord_map Val.bits (ord_cmpZ _) (fun _ _ => trivial) fun y hy h => ?_) sv fun a b ha hb => ?_
      · exact same_eq sv hy (fun h => by omega) (fun h => by omega) (fun _ => h) (fun h => by omega) (fun h => by omega) (fun h => by omega)
      · rw [orderV_eq, ha.2, hb.2, if_neg (by omega), if_neg (by omega), if_neg e2, if_neg e3, if_pos e4]
    by_cases e5 : v.kind = 5 ∨ v.kind = 6
    · refine ord_congr (c := fun a b => cmpS a.text b.text) (ord_map Val.text (ord_cmpS _) (fun _ _ => trivial) fun y hy h => ?_) sv fun a b ha hb => ?_
      · exact same_eq sv hy (fun h => by omega) (fun h => by omega) (fun h => by omega) (fun _ => h) (fun h => by omega) (fun h => by omega)
      · rw [orderV_eq, ha.2, hb.2, if_neg (by omega), if_neg (by omega), if_neg e2, if_neg e3, if_neg e4]
        rcases e5 with e5 | e5
        · rw [if_pos e5]
        · rw [if_neg (by omega), if_pos e5]
    by_cases e8 : v.kind = 8
    · have hp : ∀ p, p ∈ v.names.zip v.list → OrdAt (pairC orderV) (fun q => good q.2 = true) p ∧ pairC orderV p p = 0 := fun p hp => ⟨ord_pair (hl p.2 (zip_mem hp).2).1, by unfold pairC; rw [if_pos (cmpS_self _), (hl _ (zip_mem hp).2).2]⟩
      have hln : ∀ y, Same v.kind y → y.names.length = y.list.length := fun y hy => (formed_parts (good_iff.1 hy.1).1).2.1 (hy.2.trans e8)
      refine ord_congr (c := fun a b => rowsG (pairC orderV) (a.names.zip a.list) (b.names.zip b.list)) (ord_map (fun a : Val => a.names.zip a.list) (ord_rows _ hp) (fun y hy p hp => good_mem hy.1 (zip_mem hp).2) fun y hy h => ?_) sv fun a b ha hb => ?_
      · obtain ⟨h1, h2⟩ := zip_inj (hln v sv) (hln y hy) h
        exact same_eq sv hy (fun h => by omega) (fun h => by omega) (fun h => by omega) (fun h => by omega) (fun _ => h1) (fun _ => h2)
      · rw [orderV_eq, ha.2, hb.2, if_neg (by omega), if_neg (by omega), if_neg e2, if_neg e3, if_neg e4, if_neg (by omega), if_neg (by omega), if_pos e8]
    by_cases e9 : v.kind = 9
    · refine ord_congr (c := fun a b => lexC (rowsG orderV) (a.text, a.list) (b.text, b.list)) (ord_map (fun a : Val => (a.text, a.list)) (ord_lex (ord_rows _ hl)) (fun y hy x hx => good_mem hy.1 hx) fun y hy h => ?_) sv fun a b ha hb => ?_
      · simp only [Prod.mk.injEq] at h
        exact same_eq sv hy (fun h => by omega) (fun h => by omega) (fun h => by omega) (fun _ => h.1) (fun h => by omega) (fun _ => h.2)
      · rw [orderV_eq, ha.2, hb.2, if_neg (by omega), if_neg (by omega), if_neg e2, if_neg e3, if_neg e4, if_neg (by omega), if_neg (by omega), if_neg e8, if_pos e9]
        rfl
    · refine ord_congr (c := fun a b => rowsG orderV a.list b.list) (ord_map Val.list (ord_rows _ hl) (fun y hy x hx => good_mem hy.1 hx) fun y hy h => ?_) sv fun a b ha hb => ?_
      · exact same_eq sv hy (fun h => by omega) (fun h => by omega) (fun h => by omega) (fun h => by omega) (fun h => by omega) (fun _ => h)
      · rw [orderV_eq, ha.2, hb.2, if_neg (by omega), if_neg (by omega), if_neg e2, if_neg e3, if_neg e4, if_neg (by omega), if_neg (by omega), if_neg e8, if_neg e9]
  have lt : ∀ a b : Val, a.kind < b.kind → orderV a b = -1 := fun a b h => by rw [orderV_eq, if_pos h]
  have gt : ∀ a b : Val, b.kind < a.kind → orderV a b = 1 := fun a b h => by rw [orderV_eq, if_neg (by omega), if_pos h]
  refine ⟨fun y hy => ?_, fun y hy => ?_, fun y hy h => ?_, fun y z hy hz h1 h2 => ?_⟩
  · rcases Int.lt_trichotomy v.kind y.kind with h | h | h
    · exact .inl (lt _ _ h)
    · exact key.rng y ⟨hy, h.symm⟩
    · exact .inr (.inr (gt _ _ h))
  · rcases Int.lt_trichotomy v.kind y.kind with h | h | h
    · rw [lt _ _ h, gt _ _ h]; rfl
    · exact key.anti y ⟨hy, h.symm⟩
    · rw [lt _ _ h, gt _ _ h]
  · rcases Int.lt_trichotomy v.kind y.kind with k | k | k
    · rw [lt _ _ k] at h; omega
    · exact key.zero y ⟨hy, k.symm⟩ h
    · rw [gt _ _ k] at h; omega
  · have a1 : v.kind ≤ y.kind := by
      apply Int.not_lt.1; intro k; rw [gt _ _ k] at h1; omega
    have a2 : y.kind ≤ z.kind := by
      apply Int.not_lt.1; intro k; rw [gt _ _ k] at h2; omega
    by_cases k1 : v.kind < z.kind
    · exact lt _ _ k1
    · exact key.trans y z ⟨hy, by omega⟩ ⟨hz, by omega⟩ h1 h2
/-- calamus/calamuslaw04.ValueThree: func 8, params [41, 41, 41], ntmps 121. -/
def heads_three : List Hd := []
def entry_three : Tree :=
  (.giv (.app 1000 [(.pr .row [(.pr (.cell 0) [(.var 0)]), (.pr (.cell 1) [(.var 0)]), (.pr (.cell 2) [(.var 0)]), (.pr (.cell 3) [(.var 0)]), (.pr (.cell 4) [(.var 0)]), (.pr (.cell 5) [(.var 0)]), (.pr (.cell 6) [(.var 0)]), (.pr (.cell 7) [(.var 0)]), (.pr (.cell 8) [(.var 0)])]), (.lit (.int .i64 0)), (.lit (.int .i64 65536)), (.lit (.int .i64 0))])
    (.ite (.pr (.icmp .gtr) [(.app 11 [(.pr .row [(.pr (.cell 0) [(.var 0)]), (.pr (.cell 1) [(.var 0)]), (.pr (.cell 2) [(.var 0)]), (.pr (.cell 3) [(.var 0)]), (.pr (.cell 4) [(.var 0)]), (.pr (.cell 5) [(.var 0)]), (.pr (.cell 6) [(.var 0)]), (.pr (.cell 7) [(.var 0)]), (.pr (.cell 8) [(.var 0)])]), (.lit (.int .i64 0)), (.lit (.int .i64 65536)), (.lit (.int .i64 0))]), (.lit (.int .i64 65536))])
      (.leaf (.ret (.lit (.bool true))))
      (.giv (.app 1000 [(.pr .row [(.pr (.cell 0) [(.var 0)]), (.pr (.cell 1) [(.var 0)]), (.pr (.cell 2) [(.var 0)]), (.pr (.cell 3) [(.var 0)]), (.pr (.cell 4) [(.var 0)]), (.pr (.cell 5) [(.var 0)]), (.pr (.cell 6) [(.var 0)]), (.pr (.cell 7) [(.var 0)]), (.pr (.cell 8) [(.var 0)])])])
        (.ite (.app 12 [(.pr .row [(.pr (.cell 0) [(.var 0)]), (.pr (.cell 1) [(.var 0)]), (.pr (.cell 2) [(.var 0)]), (.pr (.cell 3) [(.var 0)]), (.pr (.cell 4) [(.var 0)]), (.pr (.cell 5) [(.var 0)]), (.pr (.cell 6) [(.var 0)]), (.pr (.cell 7) [(.var 0)]), (.pr (.cell 8) [(.var 0)])])])
          (.leaf (.ret (.lit (.bool true))))
          (.giv (.app 1000 [(.pr .row [(.pr (.cell 0) [(.var 1)]), (.pr (.cell 1) [(.var 1)]), (.pr (.cell 2) [(.var 1)]), (.pr (.cell 3) [(.var 1)]), (.pr (.cell 4) [(.var 1)]), (.pr (.cell 5) [(.var 1)]), (.pr (.cell 6) [(.var 1)]), (.pr (.cell 7) [(.var 1)]), (.pr (.cell 8) [(.var 1)])]), (.lit (.int .i64 0)), (.lit (.int .i64 65536)), (.lit (.int .i64 0))])
            (.ite (.pr (.icmp .gtr) [(.app 11 [(.pr .row [(.pr (.cell 0) [(.var 1)]), (.pr (.cell 1) [(.var 1)]), (.pr (.cell 2) [(.var 1)]), (.pr (.cell 3) [(.var 1)]), (.pr (.cell 4) [(.var 1)]), (.pr (.cell 5) [(.var 1)]), (.pr (.cell 6) [(.var 1)]), (.pr (.cell 7) [(.var 1)]), (.pr (.cell 8) [(.var 1)])]), (.lit (.int .i64 0)), (.lit (.int .i64 65536)), (.lit (.int .i64 0))]), (.lit (.int .i64 65536))])
              (.leaf (.ret (.lit (.bool true))))
              (.giv (.app 1000 [(.pr .row [(.pr (.cell 0) [(.var 1)]), (.pr (.cell 1) [(.var 1)]), (.pr (.cell 2) [(.var 1)]), (.pr (.cell 3) [(.var 1)]), (.pr (.cell 4) [(.var 1)]), (.pr (.cell 5) [(.var 1)]), (.pr (.cell 6) [(.var 1)]), (.pr (.cell 7) [(.var 1)]), (.pr (.cell 8) [(.var 1)])])])
                (.ite (.app 12 [(.pr .row [(.pr (.cell 0) [(.var 1)]), (.pr (.cell 1) [(.var 1)]), (.pr (.cell 2) [(.var 1)]), (.pr (.cell 3) [(.var 1)]), (.pr (.cell 4) [(.var 1)]), (.pr (.cell 5) [(.var 1)]), (.pr (.cell 6) [(.var 1)]), (.pr (.cell 7) [(.var 1)]), (.pr (.cell 8) [(.var 1)])])])
                  (.leaf (.ret (.lit (.bool true))))
                  (.giv (.app 1000 [(.pr .row [(.pr (.cell 0) [(.var 2)]), (.pr (.cell 1) [(.var 2)]), (.pr (.cell 2) [(.var 2)]), (.pr (.cell 3) [(.var 2)]), (.pr (.cell 4) [(.var 2)]), (.pr (.cell 5) [(.var 2)]), (.pr (.cell 6) [(.var 2)]), (.pr (.cell 7) [(.var 2)]), (.pr (.cell 8) [(.var 2)])]), (.lit (.int .i64 0)), (.lit (.int .i64 65536)), (.lit (.int .i64 0))])
                    (.ite (.pr (.icmp .gtr) [(.app 11 [(.pr .row [(.pr (.cell 0) [(.var 2)]), (.pr (.cell 1) [(.var 2)]), (.pr (.cell 2) [(.var 2)]), (.pr (.cell 3) [(.var 2)]), (.pr (.cell 4) [(.var 2)]), (.pr (.cell 5) [(.var 2)]), (.pr (.cell 6) [(.var 2)]), (.pr (.cell 7) [(.var 2)]), (.pr (.cell 8) [(.var 2)])]), (.lit (.int .i64 0)), (.lit (.int .i64 65536)), (.lit (.int .i64 0))]), (.lit (.int .i64 65536))])
                      (.leaf (.ret (.lit (.bool true))))
                      (.giv (.app 1000 [(.pr .row [(.pr (.cell 0) [(.var 2)]), (.pr (.cell 1) [(.var 2)]), (.pr (.cell 2) [(.var 2)]), (.pr (.cell 3) [(.var 2)]), (.pr (.cell 4) [(.var 2)]), (.pr (.cell 5) [(.var 2)]), (.pr (.cell 6) [(.var 2)]), (.pr (.cell 7) [(.var 2)]), (.pr (.cell 8) [(.var 2)])])])
                        (.ite (.app 12 [(.pr .row [(.pr (.cell 0) [(.var 2)]), (.pr (.cell 1) [(.var 2)]), (.pr (.cell 2) [(.var 2)]), (.pr (.cell 3) [(.var 2)]), (.pr (.cell 4) [(.var 2)]), (.pr (.cell 5) [(.var 2)]), (.pr (.cell 6) [(.var 2)]), (.pr (.cell 7) [(.var 2)]), (.pr (.cell 8) [(.var 2)])])])
                          (.leaf (.ret (.lit (.bool true))))
                          (.giv (.app 1000 [(.pr .row [(.pr (.cell 0) [(.var 0)]), (.pr (.cell 1) [(.var 0)]), (.pr (.cell 2) [(.var 0)]), (.pr (.cell 3) [(.var 0)]), (.pr (.cell 4) [(.var 0)]), (.pr (.cell 5) [(.var 0)]), (.pr (.cell 6) [(.var 0)]), (.pr (.cell 7) [(.var 0)]), (.pr (.cell 8) [(.var 0)])]), (.pr .row [(.pr (.cell 0) [(.var 1)]), (.pr (.cell 1) [(.var 1)]), (.pr (.cell 2) [(.var 1)]), (.pr (.cell 3) [(.var 1)]), (.pr (.cell 4) [(.var 1)]), (.pr (.cell 5) [(.var 1)]), (.pr (.cell 6) [(.var 1)]), (.pr (.cell 7) [(.var 1)]), (.pr (.cell 8) [(.var 1)])])])
                            (.giv (.app 1000 [(.pr .row [(.pr (.cell 0) [(.var 1)]), (.pr (.cell 1) [(.var 1)]), (.pr (.cell 2) [(.var 1)]), (.pr (.cell 3) [(.var 1)]), (.pr (.cell 4) [(.var 1)]), (.pr (.cell 5) [(.var 1)]), (.pr (.cell 6) [(.var 1)]), (.pr (.cell 7) [(.var 1)]), (.pr (.cell 8) [(.var 1)])]), (.pr .row [(.pr (.cell 0) [(.var 2)]), (.pr (.cell 1) [(.var 2)]), (.pr (.cell 2) [(.var 2)]), (.pr (.cell 3) [(.var 2)]), (.pr (.cell 4) [(.var 2)]), (.pr (.cell 5) [(.var 2)]), (.pr (.cell 6) [(.var 2)]), (.pr (.cell 7) [(.var 2)]), (.pr (.cell 8) [(.var 2)])])])
                              (.giv (.app 1000 [(.pr .row [(.pr (.cell 0) [(.var 0)]), (.pr (.cell 1) [(.var 0)]), (.pr (.cell 2) [(.var 0)]), (.pr (.cell 3) [(.var 0)]), (.pr (.cell 4) [(.var 0)]), (.pr (.cell 5) [(.var 0)]), (.pr (.cell 6) [(.var 0)]), (.pr (.cell 7) [(.var 0)]), (.pr (.cell 8) [(.var 0)])]), (.pr .row [(.pr (.cell 0) [(.var 2)]), (.pr (.cell 1) [(.var 2)]), (.pr (.cell 2) [(.var 2)]), (.pr (.cell 3) [(.var 2)]), (.pr (.cell 4) [(.var 2)]), (.pr (.cell 5) [(.var 2)]), (.pr (.cell 6) [(.var 2)]), (.pr (.cell 7) [(.var 2)]), (.pr (.cell 8) [(.var 2)])])])
                                (.ite (.pr (.icmp .neq) [(.pr (.cell 1) [(.app 27 [(.pr .row [(.pr (.cell 0) [(.var 0)]), (.pr (.cell 1) [(.var 0)]), (.pr (.cell 2) [(.var 0)]), (.pr (.cell 3) [(.var 0)]), (.pr (.cell 4) [(.var 0)]), (.pr (.cell 5) [(.var 0)]), (.pr (.cell 6) [(.var 0)]), (.pr (.cell 7) [(.var 0)]), (.pr (.cell 8) [(.var 0)])]), (.pr .row [(.pr (.cell 0) [(.var 1)]), (.pr (.cell 1) [(.var 1)]), (.pr (.cell 2) [(.var 1)]), (.pr (.cell 3) [(.var 1)]), (.pr (.cell 4) [(.var 1)]), (.pr (.cell 5) [(.var 1)]), (.pr (.cell 6) [(.var 1)]), (.pr (.cell 7) [(.var 1)]), (.pr (.cell 8) [(.var 1)])])])]), (.lit (.int .i64 0))])
                                  (.giv (.app 1000 [])
                                    (.ite (.app 14 [])
                                      (.ite (.pr (.icmp .eql) [(.pr (.cell 1) [(.app 27 [(.pr .row [(.pr (.cell 0) [(.var 0)]), (.pr (.cell 1) [(.var 0)]), (.pr (.cell 2) [(.var 0)]), (.pr (.cell 3) [(.var 0)]), (.pr (.cell 4) [(.var 0)]), (.pr (.cell 5) [(.var 0)]), (.pr (.cell 6) [(.var 0)]), (.pr (.cell 7) [(.var 0)]), (.pr (.cell 8) [(.var 0)])]), (.pr .row [(.pr (.cell 0) [(.var 1)]), (.pr (.cell 1) [(.var 1)]), (.pr (.cell 2) [(.var 1)]), (.pr (.cell 3) [(.var 1)]), (.pr (.cell 4) [(.var 1)]), (.pr (.cell 5) [(.var 1)]), (.pr (.cell 6) [(.var 1)]), (.pr (.cell 7) [(.var 1)]), (.pr (.cell 8) [(.var 1)])])])]), (.lit (.int .i64 0))])
                                        (.leaf (.ret (.lit (.bool true))))
                                        (.ite (.pr (.icmp .neq) [(.app 13 [(.pr .row [(.pr (.cell 0) [(.var 0)]), (.pr (.cell 1) [(.var 0)]), (.pr (.cell 2) [(.var 0)]), (.pr (.cell 3) [(.var 0)]), (.pr (.cell 4) [(.var 0)]), (.pr (.cell 5) [(.var 0)]), (.pr (.cell 6) [(.var 0)]), (.pr (.cell 7) [(.var 0)]), (.pr (.cell 8) [(.var 0)])])]), (.lit (.int .i64 0))])
                                          (.leaf (.ret (.lit (.bool true))))
                                          (.leaf (.ret (.pr (.icmp .neq) [(.app 13 [(.pr .row [(.pr (.cell 0) [(.var 1)]), (.pr (.cell 1) [(.var 1)]), (.pr (.cell 2) [(.var 1)]), (.pr (.cell 3) [(.var 1)]), (.pr (.cell 4) [(.var 1)]), (.pr (.cell 5) [(.var 1)]), (.pr (.cell 6) [(.var 1)]), (.pr (.cell 7) [(.var 1)]), (.pr (.cell 8) [(.var 1)])])]), (.lit (.int .i64 0))])))))
                                      (.leaf (.ret (.lit (.bool false))))))
                                  (.ite (.pr (.icmp .neq) [(.pr (.cell 1) [(.app 27 [(.pr .row [(.pr (.cell 0) [(.var 1)]), (.pr (.cell 1) [(.var 1)]), (.pr (.cell 2) [(.var 1)]), (.pr (.cell 3) [(.var 1)]), (.pr (.cell 4) [(.var 1)]), (.pr (.cell 5) [(.var 1)]), (.pr (.cell 6) [(.var 1)]), (.pr (.cell 7) [(.var 1)]), (.pr (.cell 8) [(.var 1)])]), (.pr .row [(.pr (.cell 0) [(.var 2)]), (.pr (.cell 1) [(.var 2)]), (.pr (.cell 2) [(.var 2)]), (.pr (.cell 3) [(.var 2)]), (.pr (.cell 4) [(.var 2)]), (.pr (.cell 5) [(.var 2)]), (.pr (.cell 6) [(.var 2)]), (.pr (.cell 7) [(.var 2)]), (.pr (.cell 8) [(.var 2)])])])]), (.lit (.int .i64 0))])
                                    (.giv (.app 1000 [])
                                      (.ite (.app 14 [])
                                        (.ite (.pr (.icmp .eql) [(.pr (.cell 1) [(.app 27 [(.pr .row [(.pr (.cell 0) [(.var 0)]), (.pr (.cell 1) [(.var 0)]), (.pr (.cell 2) [(.var 0)]), (.pr (.cell 3) [(.var 0)]), (.pr (.cell 4) [(.var 0)]), (.pr (.cell 5) [(.var 0)]), (.pr (.cell 6) [(.var 0)]), (.pr (.cell 7) [(.var 0)]), (.pr (.cell 8) [(.var 0)])]), (.pr .row [(.pr (.cell 0) [(.var 1)]), (.pr (.cell 1) [(.var 1)]), (.pr (.cell 2) [(.var 1)]), (.pr (.cell 3) [(.var 1)]), (.pr (.cell 4) [(.var 1)]), (.pr (.cell 5) [(.var 1)]), (.pr (.cell 6) [(.var 1)]), (.pr (.cell 7) [(.var 1)]), (.pr (.cell 8) [(.var 1)])])])]), (.lit (.int .i64 0))])
                                          (.leaf (.ret (.lit (.bool true))))
                                          (.ite (.pr (.icmp .neq) [(.app 13 [(.pr .row [(.pr (.cell 0) [(.var 0)]), (.pr (.cell 1) [(.var 0)]), (.pr (.cell 2) [(.var 0)]), (.pr (.cell 3) [(.var 0)]), (.pr (.cell 4) [(.var 0)]), (.pr (.cell 5) [(.var 0)]), (.pr (.cell 6) [(.var 0)]), (.pr (.cell 7) [(.var 0)]), (.pr (.cell 8) [(.var 0)])])]), (.lit (.int .i64 0))])
                                            (.leaf (.ret (.lit (.bool true))))
                                            (.leaf (.ret (.pr (.icmp .neq) [(.app 13 [(.pr .row [(.pr (.cell 0) [(.var 1)]), (.pr (.cell 1) [(.var 1)]), (.pr (.cell 2) [(.var 1)]), (.pr (.cell 3) [(.var 1)]), (.pr (.cell 4) [(.var 1)]), (.pr (.cell 5) [(.var 1)]), (.pr (.cell 6) [(.var 1)]), (.pr (.cell 7) [(.var 1)]), (.pr (.cell 8) [(.var 1)])])]), (.lit (.int .i64 0))])))))
                                        (.leaf (.ret (.lit (.bool false))))))
                                    (.ite (.pr (.icmp .neq) [(.pr (.cell 1) [(.app 27 [(.pr .row [(.pr (.cell 0) [(.var 0)]), (.pr (.cell 1) [(.var 0)]), (.pr (.cell 2) [(.var 0)]), (.pr (.cell 3) [(.var 0)]), (.pr (.cell 4) [(.var 0)]), (.pr (.cell 5) [(.var 0)]), (.pr (.cell 6) [(.var 0)]), (.pr (.cell 7) [(.var 0)]), (.pr (.cell 8) [(.var 0)])]), (.pr .row [(.pr (.cell 0) [(.var 2)]), (.pr (.cell 1) [(.var 2)]), (.pr (.cell 2) [(.var 2)]), (.pr (.cell 3) [(.var 2)]), (.pr (.cell 4) [(.var 2)]), (.pr (.cell 5) [(.var 2)]), (.pr (.cell 6) [(.var 2)]), (.pr (.cell 7) [(.var 2)]), (.pr (.cell 8) [(.var 2)])])])]), (.lit (.int .i64 0))])
                                      (.giv (.app 1000 [])
                                        (.ite (.app 14 [])
                                          (.ite (.pr (.icmp .eql) [(.pr (.cell 1) [(.app 27 [(.pr .row [(.pr (.cell 0) [(.var 0)]), (.pr (.cell 1) [(.var 0)]), (.pr (.cell 2) [(.var 0)]), (.pr (.cell 3) [(.var 0)]), (.pr (.cell 4) [(.var 0)]), (.pr (.cell 5) [(.var 0)]), (.pr (.cell 6) [(.var 0)]), (.pr (.cell 7) [(.var 0)]), (.pr (.cell 8) [(.var 0)])]), (.pr .row [(.pr (.cell 0) [(.var 1)]), (.pr (.cell 1) [(.var 1)]), (.pr (.cell 2) [(.var 1)]), (.pr (.cell 3) [(.var 1)]), (.pr (.cell 4) [(.var 1)]), (.pr (.cell 5) [(.var 1)]), (.pr (.cell 6) [(.var 1)]), (.pr (.cell 7) [(.var 1)]), (.pr (.cell 8) [(.var 1)])])])]), (.lit (.int .i64 0))])
                                            (.leaf (.ret (.lit (.bool true))))
                                            (.ite (.pr (.icmp .neq) [(.app 13 [(.pr .row [(.pr (.cell 0) [(.var 0)]), (.pr (.cell 1) [(.var 0)]), (.pr (.cell 2) [(.var 0)]), (.pr (.cell 3) [(.var 0)]), (.pr (.cell 4) [(.var 0)]), (.pr (.cell 5) [(.var 0)]), (.pr (.cell 6) [(.var 0)]), (.pr (.cell 7) [(.var 0)]), (.pr (.cell 8) [(.var 0)])])]), (.lit (.int .i64 0))])
                                              (.leaf (.ret (.lit (.bool true))))
                                              (.leaf (.ret (.pr (.icmp .neq) [(.app 13 [(.pr .row [(.pr (.cell 0) [(.var 1)]), (.pr (.cell 1) [(.var 1)]), (.pr (.cell 2) [(.var 1)]), (.pr (.cell 3) [(.var 1)]), (.pr (.cell 4) [(.var 1)]), (.pr (.cell 5) [(.var 1)]), (.pr (.cell 6) [(.var 1)]), (.pr (.cell 7) [(.var 1)]), (.pr (.cell 8) [(.var 1)])])]), (.lit (.int .i64 0))])))))
                                          (.leaf (.ret (.lit (.bool false))))))
                                      (.giv (.app 1000 [(.pr .row [(.pr (.cell 0) [(.var 1)]), (.pr (.cell 1) [(.var 1)]), (.pr (.cell 2) [(.var 1)]), (.pr (.cell 3) [(.var 1)]), (.pr (.cell 4) [(.var 1)]), (.pr (.cell 5) [(.var 1)]), (.pr (.cell 6) [(.var 1)]), (.pr (.cell 7) [(.var 1)]), (.pr (.cell 8) [(.var 1)])]), (.pr .row [(.pr (.cell 0) [(.var 0)]), (.pr (.cell 1) [(.var 0)]), (.pr (.cell 2) [(.var 0)]), (.pr (.cell 3) [(.var 0)]), (.pr (.cell 4) [(.var 0)]), (.pr (.cell 5) [(.var 0)]), (.pr (.cell 6) [(.var 0)]), (.pr (.cell 7) [(.var 0)]), (.pr (.cell 8) [(.var 0)])])])
                                        (.giv (.app 1000 [(.pr .row [(.pr (.cell 0) [(.var 0)]), (.pr (.cell 1) [(.var 0)]), (.pr (.cell 2) [(.var 0)]), (.pr (.cell 3) [(.var 0)]), (.pr (.cell 4) [(.var 0)]), (.pr (.cell 5) [(.var 0)]), (.pr (.cell 6) [(.var 0)]), (.pr (.cell 7) [(.var 0)]), (.pr (.cell 8) [(.var 0)])]), (.pr .row [(.pr (.cell 0) [(.var 0)]), (.pr (.cell 1) [(.var 0)]), (.pr (.cell 2) [(.var 0)]), (.pr (.cell 3) [(.var 0)]), (.pr (.cell 4) [(.var 0)]), (.pr (.cell 5) [(.var 0)]), (.pr (.cell 6) [(.var 0)]), (.pr (.cell 7) [(.var 0)]), (.pr (.cell 8) [(.var 0)])])])
                                          (.giv (.app 1000 [])
                                            (.ite (.app 14 [])
                                              (.ite (.pr (.icmp .eql) [(.pr (.cell 1) [(.app 27 [(.pr .row [(.pr (.cell 0) [(.var 1)]), (.pr (.cell 1) [(.var 1)]), (.pr (.cell 2) [(.var 1)]), (.pr (.cell 3) [(.var 1)]), (.pr (.cell 4) [(.var 1)]), (.pr (.cell 5) [(.var 1)]), (.pr (.cell 6) [(.var 1)]), (.pr (.cell 7) [(.var 1)]), (.pr (.cell 8) [(.var 1)])]), (.pr .row [(.pr (.cell 0) [(.var 0)]), (.pr (.cell 1) [(.var 0)]), (.pr (.cell 2) [(.var 0)]), (.pr (.cell 3) [(.var 0)]), (.pr (.cell 4) [(.var 0)]), (.pr (.cell 5) [(.var 0)]), (.pr (.cell 6) [(.var 0)]), (.pr (.cell 7) [(.var 0)]), (.pr (.cell 8) [(.var 0)])])])]), (.lit (.int .i64 0))])
                                                (.ite (.pr (.icmp .eql) [(.pr (.cell 0) [(.app 27 [(.pr .row [(.pr (.cell 0) [(.var 1)]), (.pr (.cell 1) [(.var 1)]), (.pr (.cell 2) [(.var 1)]), (.pr (.cell 3) [(.var 1)]), (.pr (.cell 4) [(.var 1)]), (.pr (.cell 5) [(.var 1)]), (.pr (.cell 6) [(.var 1)]), (.pr (.cell 7) [(.var 1)]), (.pr (.cell 8) [(.var 1)])]), (.pr .row [(.pr (.cell 0) [(.var 0)]), (.pr (.cell 1) [(.var 0)]), (.pr (.cell 2) [(.var 0)]), (.pr (.cell 3) [(.var 0)]), (.pr (.cell 4) [(.var 0)]), (.pr (.cell 5) [(.var 0)]), (.pr (.cell 6) [(.var 0)]), (.pr (.cell 7) [(.var 0)]), (.pr (.cell 8) [(.var 0)])])])]), (.pr (.neg .i64) [(.pr (.cell 0) [(.app 27 [(.pr .row [(.pr (.cell 0) [(.var 0)]), (.pr (.cell 1) [(.var 0)]), (.pr (.cell 2) [(.var 0)]), (.pr (.cell 3) [(.var 0)]), (.pr (.cell 4) [(.var 0)]), (.pr (.cell 5) [(.var 0)]), (.pr (.cell 6) [(.var 0)]), (.pr (.cell 7) [(.var 0)]), (.pr (.cell 8) [(.var 0)])]), (.pr .row [(.pr (.cell 0) [(.var 1)]), (.pr (.cell 1) [(.var 1)]), (.pr (.cell 2) [(.var 1)]), (.pr (.cell 3) [(.var 1)]), (.pr (.cell 4) [(.var 1)]), (.pr (.cell 5) [(.var 1)]), (.pr (.cell 6) [(.var 1)]), (.pr (.cell 7) [(.var 1)]), (.pr (.cell 8) [(.var 1)])])])])])])
                                                  (.ite (.pr (.icmp .eql) [(.pr (.cell 1) [(.app 27 [(.pr .row [(.pr (.cell 0) [(.var 0)]), (.pr (.cell 1) [(.var 0)]), (.pr (.cell 2) [(.var 0)]), (.pr (.cell 3) [(.var 0)]), (.pr (.cell 4) [(.var 0)]), (.pr (.cell 5) [(.var 0)]), (.pr (.cell 6) [(.var 0)]), (.pr (.cell 7) [(.var 0)]), (.pr (.cell 8) [(.var 0)])]), (.pr .row [(.pr (.cell 0) [(.var 0)]), (.pr (.cell 1) [(.var 0)]), (.pr (.cell 2) [(.var 0)]), (.pr (.cell 3) [(.var 0)]), (.pr (.cell 4) [(.var 0)]), (.pr (.cell 5) [(.var 0)]), (.pr (.cell 6) [(.var 0)]), (.pr (.cell 7) [(.var 0)]), (.pr (.cell 8) [(.var 0)])])])]), (.lit (.int .i64 0))])
                                                    (.ite (.pr (.icmp .eql) [(.pr (.cell 0) [(.app 27 [(.pr .row [(.pr (.cell 0) [(.var 0)]), (.pr (.cell 1) [(.var 0)]), (.pr (.cell 2) [(.var 0)]), (.pr (.cell 3) [(.var 0)]), (.pr (.cell 4) [(.var 0)]), (.pr (.cell 5) [(.var 0)]), (.pr (.cell 6) [(.var 0)]), (.pr (.cell 7) [(.var 0)]), (.pr (.cell 8) [(.var 0)])]), (.pr .row [(.pr (.cell 0) [(.var 0)]), (.pr (.cell 1) [(.var 0)]), (.pr (.cell 2) [(.var 0)]), (.pr (.cell 3) [(.var 0)]), (.pr (.cell 4) [(.var 0)]), (.pr (.cell 5) [(.var 0)]), (.pr (.cell 6) [(.var 0)]), (.pr (.cell 7) [(.var 0)]), (.pr (.cell 8) [(.var 0)])])])]), (.lit (.int .i64 0))])
                                                      (.ite (.pr (.icmp .gtr) [(.pr (.cell 0) [(.app 27 [(.pr .row [(.pr (.cell 0) [(.var 0)]), (.pr (.cell 1) [(.var 0)]), (.pr (.cell 2) [(.var 0)]), (.pr (.cell 3) [(.var 0)]), (.pr (.cell 4) [(.var 0)]), (.pr (.cell 5) [(.var 0)]), (.pr (.cell 6) [(.var 0)]), (.pr (.cell 7) [(.var 0)]), (.pr (.cell 8) [(.var 0)])]), (.pr .row [(.pr (.cell 0) [(.var 1)]), (.pr (.cell 1) [(.var 1)]), (.pr (.cell 2) [(.var 1)]), (.pr (.cell 3) [(.var 1)]), (.pr (.cell 4) [(.var 1)]), (.pr (.cell 5) [(.var 1)]), (.pr (.cell 6) [(.var 1)]), (.pr (.cell 7) [(.var 1)]), (.pr (.cell 8) [(.var 1)])])])]), (.lit (.int .i64 0))])
                                                        (.leaf (.ret (.pr (.bcmp .eql) [(.pr (.icmp .eql) [(.pr (.cell 0) [(.app 27 [(.pr .row [(.pr (.cell 0) [(.var 0)]), (.pr (.cell 1) [(.var 0)]), (.pr (.cell 2) [(.var 0)]), (.pr (.cell 3) [(.var 0)]), (.pr (.cell 4) [(.var 0)]), (.pr (.cell 5) [(.var 0)]), (.pr (.cell 6) [(.var 0)]), (.pr (.cell 7) [(.var 0)]), (.pr (.cell 8) [(.var 0)])]), (.pr .row [(.pr (.cell 0) [(.var 1)]), (.pr (.cell 1) [(.var 1)]), (.pr (.cell 2) [(.var 1)]), (.pr (.cell 3) [(.var 1)]), (.pr (.cell 4) [(.var 1)]), (.pr (.cell 5) [(.var 1)]), (.pr (.cell 6) [(.var 1)]), (.pr (.cell 7) [(.var 1)]), (.pr (.cell 8) [(.var 1)])])])]), (.lit (.int .i64 0))]), (.app 17 [(.pr .row [(.pr (.cell 0) [(.var 0)]), (.pr (.cell 1) [(.var 0)]), (.pr (.cell 2) [(.var 0)]), (.pr (.cell 3) [(.var 0)]), (.pr (.cell 4) [(.var 0)]), (.pr (.cell 5) [(.var 0)]), (.pr (.cell 6) [(.var 0)]), (.pr (.cell 7) [(.var 0)]), (.pr (.cell 8) [(.var 0)])]), (.pr .row [(.pr (.cell 0) [(.var 1)]), (.pr (.cell 1) [(.var 1)]), (.pr (.cell 2) [(.var 1)]), (.pr (.cell 3) [(.var 1)]), (.pr (.cell 4) [(.var 1)]), (.pr (.cell 5) [(.var 1)]), (.pr (.cell 6) [(.var 1)]), (.pr (.cell 7) [(.var 1)]), (.pr (.cell 8) [(.var 1)])])])])))
                                                        (.ite (.pr (.icmp .gtr) [(.pr (.cell 0) [(.app 27 [(.pr .row [(.pr (.cell 0) [(.var 1)]), (.pr (.cell 1) [(.var 1)]), (.pr (.cell 2) [(.var 1)]), (.pr (.cell 3) [(.var 1)]), (.pr (.cell 4) [(.var 1)]), (.pr (.cell 5) [(.var 1)]), (.pr (.cell 6) [(.var 1)]), (.pr (.cell 7) [(.var 1)]), (.pr (.cell 8) [(.var 1)])]), (.pr .row [(.pr (.cell 0) [(.var 2)]), (.pr (.cell 1) [(.var 2)]), (.pr (.cell 2) [(.var 2)]), (.pr (.cell 3) [(.var 2)]), (.pr (.cell 4) [(.var 2)]), (.pr (.cell 5) [(.var 2)]), (.pr (.cell 6) [(.var 2)]), (.pr (.cell 7) [(.var 2)]), (.pr (.cell 8) [(.var 2)])])])]), (.lit (.int .i64 0))])
                                                          (.leaf (.ret (.pr (.bcmp .eql) [(.pr (.icmp .eql) [(.pr (.cell 0) [(.app 27 [(.pr .row [(.pr (.cell 0) [(.var 0)]), (.pr (.cell 1) [(.var 0)]), (.pr (.cell 2) [(.var 0)]), (.pr (.cell 3) [(.var 0)]), (.pr (.cell 4) [(.var 0)]), (.pr (.cell 5) [(.var 0)]), (.pr (.cell 6) [(.var 0)]), (.pr (.cell 7) [(.var 0)]), (.pr (.cell 8) [(.var 0)])]), (.pr .row [(.pr (.cell 0) [(.var 1)]), (.pr (.cell 1) [(.var 1)]), (.pr (.cell 2) [(.var 1)]), (.pr (.cell 3) [(.var 1)]), (.pr (.cell 4) [(.var 1)]), (.pr (.cell 5) [(.var 1)]), (.pr (.cell 6) [(.var 1)]), (.pr (.cell 7) [(.var 1)]), (.pr (.cell 8) [(.var 1)])])])]), (.lit (.int .i64 0))]), (.app 17 [(.pr .row [(.pr (.cell 0) [(.var 0)]), (.pr (.cell 1) [(.var 0)]), (.pr (.cell 2) [(.var 0)]), (.pr (.cell 3) [(.var 0)]), (.pr (.cell 4) [(.var 0)]), (.pr (.cell 5) [(.var 0)]), (.pr (.cell 6) [(.var 0)]), (.pr (.cell 7) [(.var 0)]), (.pr (.cell 8) [(.var 0)])]), (.pr .row [(.pr (.cell 0) [(.var 1)]), (.pr (.cell 1) [(.var 1)]), (.pr (.cell 2) [(.var 1)]), (.pr (.cell 3) [(.var 1)]), (.pr (.cell 4) [(.var 1)]), (.pr (.cell 5) [(.var 1)]), (.pr (.cell 6) [(.var 1)]), (.pr (.cell 7) [(.var 1)]), (.pr (.cell 8) [(.var 1)])])])])))
                                                          (.ite (.pr (.icmp .leq) [(.pr (.cell 0) [(.app 27 [(.pr .row [(.pr (.cell 0) [(.var 0)]), (.pr (.cell 1) [(.var 0)]), (.pr (.cell 2) [(.var 0)]), (.pr (.cell 3) [(.var 0)]), (.pr (.cell 4) [(.var 0)]), (.pr (.cell 5) [(.var 0)]), (.pr (.cell 6) [(.var 0)]), (.pr (.cell 7) [(.var 0)]), (.pr (.cell 8) [(.var 0)])]), (.pr .row [(.pr (.cell 0) [(.var 2)]), (.pr (.cell 1) [(.var 2)]), (.pr (.cell 2) [(.var 2)]), (.pr (.cell 3) [(.var 2)]), (.pr (.cell 4) [(.var 2)]), (.pr (.cell 5) [(.var 2)]), (.pr (.cell 6) [(.var 2)]), (.pr (.cell 7) [(.var 2)]), (.pr (.cell 8) [(.var 2)])])])]), (.lit (.int .i64 0))])
                                                            (.leaf (.ret (.pr (.bcmp .eql) [(.pr (.icmp .eql) [(.pr (.cell 0) [(.app 27 [(.pr .row [(.pr (.cell 0) [(.var 0)]), (.pr (.cell 1) [(.var 0)]), (.pr (.cell 2) [(.var 0)]), (.pr (.cell 3) [(.var 0)]), (.pr (.cell 4) [(.var 0)]), (.pr (.cell 5) [(.var 0)]), (.pr (.cell 6) [(.var 0)]), (.pr (.cell 7) [(.var 0)]), (.pr (.cell 8) [(.var 0)])]), (.pr .row [(.pr (.cell 0) [(.var 1)]), (.pr (.cell 1) [(.var 1)]), (.pr (.cell 2) [(.var 1)]), (.pr (.cell 3) [(.var 1)]), (.pr (.cell 4) [(.var 1)]), (.pr (.cell 5) [(.var 1)]), (.pr (.cell 6) [(.var 1)]), (.pr (.cell 7) [(.var 1)]), (.pr (.cell 8) [(.var 1)])])])]), (.lit (.int .i64 0))]), (.app 17 [(.pr .row [(.pr (.cell 0) [(.var 0)]), (.pr (.cell 1) [(.var 0)]), (.pr (.cell 2) [(.var 0)]), (.pr (.cell 3) [(.var 0)]), (.pr (.cell 4) [(.var 0)]), (.pr (.cell 5) [(.var 0)]), (.pr (.cell 6) [(.var 0)]), (.pr (.cell 7) [(.var 0)]), (.pr (.cell 8) [(.var 0)])]), (.pr .row [(.pr (.cell 0) [(.var 1)]), (.pr (.cell 1) [(.var 1)]), (.pr (.cell 2) [(.var 1)]), (.pr (.cell 3) [(.var 1)]), (.pr (.cell 4) [(.var 1)]), (.pr (.cell 5) [(.var 1)]), (.pr (.cell 6) [(.var 1)]), (.pr (.cell 7) [(.var 1)]), (.pr (.cell 8) [(.var 1)])])])])))
                                                            (.leaf (.ret (.lit (.bool false)))))))
                                                      (.leaf (.ret (.lit (.bool false)))))
                                                    (.leaf (.ret (.lit (.bool false)))))
                                                  (.leaf (.ret (.lit (.bool false)))))
                                                (.leaf (.ret (.lit (.bool false)))))
                                              (.leaf (.ret (.lit (.bool false))))))))))))))))))))))))))
def trees_three : List Tree := []
noncomputable def deps_three : List Sig := [q_many, q_parts, q_vcmp, q_check, q_equal, q_awake]
theorem ok_three : check q_three deps_three heads_three entry_three trees_three = true := by kernel_rfl
theorem three_val {d : List D} (h : FitL tb [.row 41, .row 41, .row 41] d) : ∃ a b c : Val, d = [a.toD, b.toD, c.toD] := by
  match d, h with
  | [x, y, z], ⟨h1, h2⟩ =>
    obtain ⟨a, ha⟩ := one_val (d := [x]) ⟨h1, trivial⟩
    obtain ⟨b, c, hb⟩ := two_val (d := [y, z]) h2
    cases ha; cases hb
    exact ⟨a, b, c, rfl⟩
theorem three_ok (n : Nat) : @Ok (I n) q_three (fun ds => 4 * D.szL ds + 200 ≤ n ∧ D.LimL ds) := by
  letI := I n
  refine fn_ok (hphi n) ok_three (by
    intro q hq
    simp only [deps_three, List.mem_cons, List.not_mem_nil, or_false] at hq
    rcases hq with rfl | rfl | rfl | rfl | rfl | rfl
    · exact many_ok n
    · exact parts_ok n
    · exact vcmp_ok n
    · exact check_ok n
    · exact equal_ok n
    · exact awake_ok n _) (fun _ _ _ => False) (fun _ _ => 0) ?_ (fun j h t d ds hj => by simp [heads_three] at hj)
  intro ds hf hp
  obtain ⟨a, b, c, rfl⟩ := three_val hf
  obtain ⟨hp1, hp2, hp3, hp4⟩ := hp
  simp only [D.szL, D.LimL, and_true] at hp1 hp2 hp3 hp4
  have oz : okD n [] := ⟨by simp only [D.szL]; omega, by simp only [D.LimL]⟩
  have oa : okD n [a.toD, iD 0, iD 65536, iD 0] := okD_val3.2 ⟨by omega, hp2⟩
  have ob : okD n [b.toD, iD 0, iD 65536, iD 0] := okD_val3.2 ⟨by omega, hp3⟩
  have oc : okD n [c.toD, iD 0, iD 65536, iD 0] := okD_val3.2 ⟨by omega, hp4⟩
  have oa1 : okD n [a.toD] := okD_one.2 ⟨by omega, hp2⟩
  have ob1 : okD n [b.toD] := okD_one.2 ⟨by omega, hp3⟩
  have oc1 : okD n [c.toD] := okD_one.2 ⟨by omega, hp4⟩
  have oab : okD n [a.toD, b.toD] := okD_two.2 ⟨by omega, hp2, hp3⟩
  have oba : okD n [b.toD, a.toD] := okD_two.2 ⟨by omega, hp3, hp2⟩
  have obc : okD n [b.toD, c.toD] := okD_two.2 ⟨by omega, hp3, hp4⟩
  have oac : okD n [a.toD, c.toD] := okD_two.2 ⟨by omega, hp2, hp4⟩
  have oaa : okD n [a.toD, a.toD] := okD_two.2 ⟨by omega, hp2, hp2⟩
  simp only [entry_three, q_three, Tree.holds, Out.den, E.den, E.denL, envOf_zero, envOf_succ, den_add, den_sub, den_mul, den_quo, den_rem, den_ieql, den_ineq, den_lss, den_leq, den_gtr, den_geq, den_seql, den_sneq, den_slss, den_beql, den_bneq, den_not, den_neg, den_conv, den_slen, den_sat, den_ssub, den_scat, den_len, den_at, den_cell, den_row, den_lst, den_cat, den_ite, den_and, den_mhas, den_mget, den_mset, ofBool_bD, bD_true, rows_lst, cells_row, int_v, bool_v, str_v, rows_strs, at_0, at_1, at_2, at_3, at_4, at_5, at_6, at_7, at_8, toD_put, strD_at, ltI_t, leI_t, eqI_t, eqS_t, ltI_f, leI_f, eqI_f, eqS_f, Bool.not_eq_true', Bool.not_eq_false', List.getD_cons_zero, List.getD_cons_succ, true_and, and_true, List.length_map, phi_1000, phi_check, phi_equal, phi_parts, phi_many, phi_vcmp, phi_awake, phi_three, oz, oa, ob, oc, oa1, ob1, oc1, oab, oba, obc, oac, oaa, row_at0, row_at1]
  have v1 := vcmp_snd a b
  have v2 := vcmp_snd b c
  have v3 := vcmp_snd a c
  have v4 := vcmp_snd b a
  have v5 := vcmp_snd a a
  have w1 := @vcmp_fst a b
  have w2 := @vcmp_fst b c
  have w3 := @vcmp_fst a c
  have w4 := @vcmp_fst b a
  have w5 := @vcmp_fst a a
  have law : checkV a = 0 → checkV b = 0 → checkV c = 0 → orderV b a = -orderV a b ∧ orderV a a = 0 ∧ (orderV a b > 0 ∨ orderV b c > 0 ∨ orderV a c ≤ 0) ∧ (orderV a b = 0 ↔ eqV a b = true) ∧ (orderV a b = -1 ∨ orderV a b = 0 ∨ orderV a b = 1) := fun ha hb hc => by
    have ga := check_good ha
    have gb := check_good hb
    have gc := check_good hc
    have o := ord_val a ga
    have hr := o.rng b gb
    refine ⟨o.anti b gb, order_self a ga, ?_, ⟨fun h => ?_, fun h => ?_⟩, hr⟩
    · by_cases h1 : orderV a b > 0
      · exact .inl h1
      by_cases h2 : orderV b c > 0
      · exact .inr (.inl h2)
      refine .inr (.inr ?_)
      by_cases h3 : orderV a b = 0
      · rw [o.zero b gb h3]; omega
      · have := o.trans b c gb gc (by omega) (by omega); omega
    · rw [o.zero b gb h]; exact eqV_self b
    · have h : a = b := @of_decide_eq_true _ (Classical.propDecidable _) h
      rw [← h]; exact order_self a ga
  clear hf hp1 hp2 hp3 hp4 oz oa ob oc oa1 ob1 oc1 oab oba obc oac oaa
  generalize vcmpV a b = V1 at *
  generalize vcmpV b c = V2 at *
  generalize vcmpV a c = V3 at *
  generalize vcmpV b a = V4 at *
  generalize vcmpV a a = V5 at *
  generalize checkV a = c4 at *
  generalize checkV b = c5 at *
  generalize checkV c = c6 at *
  generalize orderV a b = O1 at *
  generalize orderV b c = O2 at *
  generalize orderV a c = O3 at *
  generalize orderV b a = O4 at *
  generalize orderV a a = O5 at *
  generalize eqV a b = E at *
  by_cases hc : c4 = 0 ∧ c5 = 0 ∧ c6 = 0
  · obtain ⟨h4, h5, h6⟩ := hc
    obtain ⟨l1, l2, l3, l4, l5⟩ := law h4 h5 h6
    have w1 := w1 h4 h5
    have w2 := w2 h5 h6
    have w3 := w3 h4 h6
    have w4 := w4 h5 h4
    have w5 := w5 h4 h4
    have hw : IntKind.i64.wrap (-V1.1) = -V1.1 := wrap_id (by omega) (by omega)
    have he : eqI V1.1 0 = E := by
      rw [w1, Bool.eq_iff_iff, eqI_t]; exact l4
    rw [hw, he]
    clear law hw he
    grind
  · clear law
    grind
end Go.Proofs.YtaeeblcdggjokaaDoor.Vk
