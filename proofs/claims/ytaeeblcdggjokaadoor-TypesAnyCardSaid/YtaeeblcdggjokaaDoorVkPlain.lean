/- Plain laws of what the functions come to: depth, size, what is looked at. -/
import Derived.Test.YtaeeblcdggjokaaDoorVkSpec
namespace Go.Proofs.YtaeeblcdggjokaaDoor.Vk
open Go Go.Ab Go.RowKit
set_option maxRecDepth 100000
set_option linter.unusedVariables false
set_option linter.unusedSimpArgs false
set_option linter.unusedSectionVars false
set_option linter.constructorNameAsVariable false
mutual
def siz : Val → Nat
  | .mk _ _ _ _ _ _ _ _ l => 1 + sizs l
def sizs : List Val → Nat
  | [] => 0
  | v :: r => siz v + sizs r
end
mutual
def dep : Val → Nat
  | .mk _ _ _ _ _ _ _ _ l => 1 + deps l
def deps : List Val → Nat
  | [] => 0
  | v :: r => max (dep v) (deps r)
end
theorem siz_eq (v : Val) : siz v = 1 + sizs v.list := by cases v; rw [siz]; rfl
theorem dep_eq (v : Val) : dep v = 1 + deps v.list := by cases v; rw [dep]; rfl
theorem sizV_eq (v : Val) : sizV v = sizL 1 v.list := by cases v; rw [sizV]; rfl
theorem depV_eq (v : Val) : depV v = wrap (depL 0 v.list + 1) := by cases v; rw [depV]; rfl
theorem siz_pos (v : Val) : 1 ≤ siz v := by rw [siz_eq]; omega
theorem dep_pos (v : Val) : 1 ≤ dep v := by rw [dep_eq]; omega
theorem dep_le : ∀ v, dep v ≤ siz v := by
  apply val_ind
  intro v ih
  rw [dep_eq, siz_eq]
  have : ∀ l : List Val, (∀ x, x ∈ l → dep x ≤ siz x) → deps l ≤ sizs l := by
    intro l
    induction l with
    | nil => intro _; rw [deps, sizs]; exact Nat.le_refl _
    | cons x r ihl =>
      intro h
      rw [deps, sizs]
      have h1 := h x (List.mem_cons_self ..)
      have h2 := ihl fun y hy => h y (List.mem_cons_of_mem _ hy)
      omega
  have := this v.list ih
  omega
theorem wrapi {i : Int} (h0 : -4611686018427387904 ≤ i) (h : i ≤ 4611686018427387904) : wrap i = i := wrap_id (by omega) (by omega)
theorem sizL_of : ∀ (l : List Val), (∀ x, x ∈ l → siz x ≤ 4611686018427387904 → sizV x = siz x) → ∀ acc : Int, 0 ≤ acc → acc + sizs l ≤ 4611686018427387904 → sizL acc l = acc + sizs l
  | [], _, acc, _, _ => by rw [sizL, sizs]; omega
  | x :: r, h, acc, h0, h1 => by
    rw [sizs] at h1
    rw [sizL, sizs, h x (List.mem_cons_self ..) (by omega), wrapi (by omega) (by omega), sizL_of r (fun y hy => h y (List.mem_cons_of_mem _ hy)) _ (by omega) (by omega)]
    omega
theorem siz_of : ∀ v, siz v ≤ 4611686018427387904 → sizV v = siz v := by
  apply val_ind
  intro v ih h
  rw [siz_eq] at h ⊢
  rw [sizV_eq, sizL_of v.list ih 1 (by omega) (by omega)]
  omega
theorem depL_of : ∀ (l : List Val), (∀ x, x ∈ l → depV x = dep x) → ∀ acc : Nat, depL acc l = max acc (deps l)
  | [], _, acc => by rw [depL, deps]; omega
  | x :: r, h, acc => by
    rw [depL, deps, h x (List.mem_cons_self ..)]
    have : (if (dep x : Int) > acc then (dep x : Int) else acc) = ((max acc (dep x) : Nat) : Int) := by split <;> omega
    rw [this, depL_of r (fun y hy => h y (List.mem_cons_of_mem _ hy))]
    omega
theorem dep_of : ∀ v, siz v ≤ 4611686018427387904 → depV v = dep v := by
  apply val_ind
  intro v ih h
  have hs : ∀ (l : List Val) (x : Val), x ∈ l → siz x ≤ sizs l := by
    intro l
    induction l with
    | nil => intro x hx; cases hx
    | cons y r ihl =>
      intro x hx
      rw [sizs]
      rcases List.mem_cons.1 hx with rfl | hx
      · omega
      · have := ihl x hx; omega
  rw [siz_eq] at h
  have hd := dep_le v
  rw [siz_eq, dep_eq] at hd
  have h0 := depL_of v.list (fun x hx => ih x hx (by have := hs v.list x hx; omega)) 0
  have h0 : depL 0 v.list = ((max 0 (deps v.list) : Nat) : Int) := h0
  rw [depV_eq, dep_eq, h0, wrapi (by omega) (by omega)]
  omega
/-! ### What is looked at -/
def big : Int := 65537 + 3 * 140737488355328
theorem partsN_of : ∀ (ns : List ByteArray) (n : Int), (∀ s, s ∈ ns → s.size ≤ lim) → 0 ≤ n → n ≤ big → n ≤ partsN 65536 n ns ∧ partsN 65536 n ns ≤ big
  | [], n, _, h0, h1 => by rw [partsN]; exact ⟨Int.le_refl _, h1⟩
  | s :: r, n, hs, h0, h1 => by
    have h2 := hs s (List.mem_cons_self ..)
    have h2 : s.size ≤ 140737488355328 := h2
    unfold big at *
    rw [partsN]
    split
    · rename_i hn
      rw [wrapi (by omega) (by omega)]
      obtain ⟨k1, k2⟩ := partsN_of r (n + s.size) (fun x hx => hs x (List.mem_cons_of_mem _ hx)) (by omega) (by unfold big; omega)
      unfold big at k2
      exact ⟨by omega, k2⟩
    · exact ⟨Int.le_refl _, h1⟩
theorem parts_of : ∀ v : Val, ∀ n w : Int, v.toD.Lim → 0 ≤ n → n ≤ 65536 → 0 ≤ w → w ≤ 301 → n ≤ partsV 65536 n w v ∧ partsV 65536 n w v ≤ big ∧ (partsV 65536 n w v ≤ 65536 → n + siz v ≤ partsV 65536 n w v) := by
  apply val_ind
  intro v ih n w hl h0 h1 hw0 hw1
  rw [lim_toD] at hl
  obtain ⟨l1, l2, l3, l4⟩ := hl
  obtain ⟨l3, l5⟩ := lim_strs.1 l3
  obtain ⟨_, l6⟩ := lim_vals.1 l4
  have l1 : v.dig.size ≤ 140737488355328 := l1
  have l2 : v.text.size ≤ 140737488355328 := l2
  have l3 : v.names.length ≤ 140737488355328 := l3
  have hlist : ∀ (l : List Val), (∀ x, x ∈ l → ∀ n w : Int, x.toD.Lim → 0 ≤ n → n ≤ 65536 → 0 ≤ w → w ≤ 301 → n ≤ partsV 65536 n w x ∧ partsV 65536 n w x ≤ big ∧ (partsV 65536 n w x ≤ 65536 → n + siz x ≤ partsV 65536 n w x)) → (∀ x, x ∈ l → x.toD.Lim) → ∀ m w : Int, 0 ≤ m → m ≤ big → 0 ≤ w → w ≤ 300 →
      m ≤ partsL 65536 w m l ∧ partsL 65536 w m l ≤ big ∧ (partsL 65536 w m l ≤ 65536 → m + sizs l ≤ partsL 65536 w m l) := by
    intro l
    induction l with
    | nil => intro _ _ m w g0 g1 _ _; rw [partsL, sizs]; exact ⟨Int.le_refl _, g1, fun _ => by omega⟩
    | cons x r ihl =>
      intro h hx m w g0 g1 g2 g3
      rw [partsL, sizs]
      split
      · rename_i hm
        obtain ⟨k1, k2, k3⟩ := h x (List.mem_cons_self ..) m (w + 1) (hx x (List.mem_cons_self ..)) g0 hm (by omega) (by omega)
        rw [wrapi (by omega) (by omega)]
        obtain ⟨j1, j2, j3⟩ := ihl (fun y hy => h y (List.mem_cons_of_mem _ hy)) (fun y hy => hx y (List.mem_cons_of_mem _ hy)) (partsV 65536 m (w + 1) x) w (by omega) k2 g2 g3
        refine ⟨by omega, j2, fun hr => ?_⟩
        have := j3 hr
        have := k3 (by omega)
        omega
      · rename_i hm
        exact ⟨Int.le_refl _, g1, fun hr => absurd hr hm⟩
  have e : partsV 65536 n w v = if w > 300 then wrap (65536 + 1) else partsL 65536 w (partsN 65536 (wrap (wrap (wrap (wrap (n + 1) + v.text.size) + v.dig.size) + v.names.length)) v.names) v.list := by cases v; rw [partsV]; rfl
  rw [e, siz_eq]
  split
  · rw [wrapi (by omega) (by omega)]
    unfold big
    exact ⟨by omega, by omega, fun h => by omega⟩
  · rw [wrapi (i := n + 1) (by omega) (by omega), wrapi (i := n + 1 + v.text.size) (by omega) (by omega), wrapi (i := n + 1 + v.text.size + v.dig.size) (by omega) (by omega), wrapi (by omega) (by omega)]
    obtain ⟨k1, k2⟩ := partsN_of v.names (n + 1 + v.text.size + v.dig.size + v.names.length) l5 (by omega) (by unfold big; omega)
    obtain ⟨j1, j2, j3⟩ := hlist v.list ih l6 _ w (by omega) k2 hw0 (by omega)
    exact ⟨by omega, j2, fun h => by have := j3 h; omega⟩
/-- What is not too much to be looked at is small. -/
theorem small_of {v : Val} (hl : v.toD.Lim) (h : ¬ 65536 < partsV 65536 0 0 v) : depV v = dep v ∧ sizV v = siz v ∧ siz v ≤ 65536 := by
  obtain ⟨_, _, h3⟩ := parts_of v 0 0 hl (by omega) (by omega) (by omega) (by omega)
  have := h3 (by omega)
  have hs : siz v ≤ 65536 := by omega
  exact ⟨dep_of v (by omega), siz_of v (by omega), hs⟩
/-! ### A list of one -/
def listV (l : List Val) : Val := .mk 7 false false .empty 0 0 .empty [] l
theorem list_put (l : List Val) : D.row [iD 7, bD false, bD false, sD .empty, iD 0, uD 0, sD .empty, .lst [], valsD l] = (listV l).toD := by rw [toD_row]; rfl
theorem list_put1 (v : Val) : D.row [iD 7, bD false, bD false, sD .empty, iD 0, uD 0, sD .empty, .lst [], .lst [v.toD]] = (listV [v]).toD := list_put [v]
theorem sz_listV (v : Val) : (listV [v]).toD.sz = v.toD.sz + 10 := by
  rw [sz_toD]
  have e1 : (strsD (listV [v]).names).sz = 1 := by rw [sz_strs]; rfl
  have e2 : (valsD (listV [v]).list).sz = v.toD.sz + 1 := by show (D.lst [v.toD]).sz = _; rw [sz_lst]; simp only [D.szL, Nat.add_zero]
  rw [e1, e2]; omega
theorem lim_listV {v : Val} (h : v.toD.Lim) : (listV [v]).toD.Lim := by
  rw [lim_toD]
  refine ⟨Nat.zero_le _, Nat.zero_le _, lim_strs.2 ⟨Nat.zero_le _, fun x hx => by cases hx⟩, lim_vals.2 ⟨?_, fun x hx => ?_⟩⟩
  · show 1 ≤ lim; decide
  · obtain rfl : x = v := by simpa [listV, Val.list] using hx
    exact h
theorem siz_listV (v : Val) : siz (listV [v]) = siz v + 1 := by rw [siz_eq]; show 1 + sizs [v] = _; rw [sizs, sizs]; omega
theorem dep_listV (v : Val) : dep (listV [v]) = dep v + 1 := by rw [dep_eq]; show 1 + deps [v] = _; rw [deps, deps]; omega
theorem formed_listV (v : Val) : formedV (listV [v]) = formedV v := by
  obtain ⟨_, _, _, _, _, _, h, _⟩ := formedV_iff 7 false false .empty 0 0 .empty [] [v]
  have h := h rfl
  have e : formedL [v] 0 < 0 ↔ formedV v = true := by
    rw [formedL, formedL]
    cases formedV v <;> simp
  rw [e] at h
  have : formedV (listV [v]) = true ↔ formedV v = true := by
    unfold listV; rw [h]; simp
  cases h1 : formedV v <;> cases h2 : formedV (listV [v]) <;> simp_all
theorem short_listV (v : Val) : shortV (listV [v]) = shortV v := by
  unfold listV
  rw [shortV, shortL, shortL, ixL]
  cases shortV v <;> simp <;> decide
end Go.Proofs.YtaeeblcdggjokaaDoor.Vk
