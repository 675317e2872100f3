/- TypesParts: its function answers true. -/
import Derived.Test.YtaeeblcdggjokaaDoorVkT5
import Derived.Test.YtaeeblcdggjokaaDoorVkTAwake
namespace Go.Proofs.YtaeeblcdggjokaaDoor.Vk
open Go Go.Ab Go.RowKit
set_option maxRecDepth 100000
set_option linter.unusedVariables false
set_option linter.unusedSimpArgs false
set_option linter.unusedSectionVars false
set_option linter.constructorNameAsVariable false
theorem zip_trans {α β γ : Type} {P : α × β → Bool} {Q : α × γ → Bool} {R : β × γ → Bool} : ∀ (A : List α) (B : List β) (V : List γ), A.length = B.length → (∀ x, x ∈ A → ∀ y, y ∈ B → ∀ u, u ∈ V → P (x, y) = true → Q (x, u) = true → R (y, u) = true) → (A.zip B).all P = true → (A.zip V).all Q = true → (B.zip V).all R = true
  | _, [], _, _, _, _, _ => by simp
  | _, _ :: _, [], _, _, _, _ => by simp
  | [], _ :: _, _ :: _, h, _, _, _ => by simp at h
  | x :: A, y :: B, u :: V, h, k, hp, hq => by
    simp only [List.zip_cons_cons, List.all_cons, Bool.and_eq_true] at hp hq ⊢
    exact ⟨k x (by simp) y (by simp) u (by simp) hp.1 hq.1, zip_trans A B V (by simpa using h) (fun x hx y hy u hu => k x (by simp [hx]) y (by simp [hy]) u (by simp [hu])) hp.2 hq.2⟩
theorem idxI_get (s : ByteArray) : ∀ (l : List ByteArray) (i : Nat), 0 ≤ idxI s l i → l[(idxI s l i).toNat - i]? = some s
  | [], i, h => by rw [idxI] at h; omega
  | x :: r, i, h => by
    rw [idxI] at h ⊢
    split
    · rename_i e
      rw [show (i : Int).toNat - i = 0 by omega, e]; rfl
    · rename_i e
      rw [if_neg e] at h
      have h1 := idxI_get s r (i + 1) h
      have h2 := (idxI_lt s r (i + 1) h).1
      rw [show (idxI s r (i + 1)).toNat - i = ((idxI s r (i + 1)).toNat - (i + 1)) + 1 by omega, List.getElem?_cons_succ]
      exact h1
theorem optB_true {α : Type} {o : Option α} {f : α → Bool} (h : optB o f = true) : ∃ x, o = some x ∧ f x = true := by
  cases o with
  | none => cases h
  | some x => exact ⟨x, rfl, h⟩
theorem sub_has (a : Typ) : ∀ (b : Typ) (v : Val), formedT a = true → formedT b = true → formedV v = true → subT a b = true → hasT a v = true → hasT b v = true := by
  induction a using typ_ind with
  | h a ih =>
    intro b v fa fb fv hs hh
    obtain ⟨t1, t2, t3, t4, t5, t6⟩ := formedT_parts fa
    obtain ⟨u1, u2, u3, u4, u5, u6⟩ := formedT_parts fb
    obtain ⟨v1, v2, v3⟩ := formedV_parts fv
    rw [subT_eq] at hs
    by_cases b1 : b.kind = 1
    · rw [hasT_eq, if_pos b1]
    by_cases c54 : a.kind = 5 ∧ b.kind = 4
    · rw [hasT_eq, if_neg (by omega), if_neg (by omega), if_neg (by omega), if_neg (by omega), c54.1, Bool.and_eq_true] at hh
      have hk := of_decide_eq_true hh.1
      rw [hasT_eq, if_neg (by omega), if_neg (by omega), if_neg (by omega), if_neg (by omega), c54.2]
      rw [decide_eq_true (show v.kind = kindsT 4 from hk)]; rfl
    rw [if_neg (fun h => h.elim b1 c54)] at hs
    by_cases he : a.kind = b.kind
    case neg => rw [if_pos he] at hs; cases hs
    rw [if_neg (by simpa using he)] at hs
    by_cases k11 : a.kind = 11
    · rw [if_pos k11, List.all_eq_true] at hs
      rw [hasT_eq, if_neg (by omega), if_neg (by omega), if_neg (by omega), if_pos k11] at hh
      simp only [Bool.and_eq_true, decide_eq_true_eq] at hh
      obtain ⟨h1, h2, h3⟩ := hh
      obtain ⟨x, hx, h3⟩ := optB_true h3
      obtain ⟨u, hu, h3⟩ := optB_true h3
      have hg := idxI_get v.text a.names 0 h2
      rw [Nat.sub_zero] at hg
      have hz : (v.text, x) ∈ a.names.zip a.list := by
        refine List.mem_of_getElem? (i := (idxI v.text a.names 0).toNat) ?_
        rw [List.getElem?_zip_eq_some]; exact ⟨hg, hx⟩
      have := hs _ hz
      simp only [Bool.and_eq_true, decide_eq_true_eq] at this
      obtain ⟨g1, g2⟩ := this
      obtain ⟨y, hy, g2⟩ := optB_true g2
      rw [hasT_eq, if_neg (by omega), if_neg (by omega), if_neg (by omega), if_pos (by omega)]
      have hxm := List.mem_of_getElem? hx
      rw [decide_eq_true h1, decide_eq_true g1, hy, hu]
      exact ih x hxm y u (t1 x hxm) (u1 y (List.mem_of_getElem? hy)) (v1 u (List.mem_of_getElem? hu)) g2 h3
    · rw [if_neg k11] at hs
      simp only [Bool.and_eq_true, decide_eq_true_eq] at hs
      obtain ⟨hn, hl, hs⟩ := hs
      by_cases k9 : a.kind = 9
      · rw [hasT_eq, if_neg (by omega), if_pos k9, Bool.and_eq_true] at hh
        rw [hasT_eq, if_neg b1, if_pos (by omega), hh.1, Bool.true_and]
        obtain ⟨x, hx⟩ := List.length_eq_one_iff.1 (t2 k9)
        obtain ⟨y, hy⟩ := List.length_eq_one_iff.1 (u2 (by omega))
        have hxm : x ∈ a.list := by rw [hx]; simp
        have hym : y ∈ b.list := by rw [hy]; simp
        have hxy : subT x y = true := by rw [hx, hy] at hs; simpa using hs
        have h2 := hh.2
        rw [hx] at h2
        have h2 : v.list.all (hasT x) = true := h2
        rw [hy]
        show v.list.all (hasT y) = true
        rw [List.all_eq_true] at h2 ⊢
        intro u hu
        exact ih x hxm y u (t1 x hxm) (u1 y hym) (v1 u hu) hxy (h2 u hu)
      by_cases k10 : a.kind = 10
      · rw [hasT_eq, if_neg (by omega), if_neg k9, if_pos k10] at hh
        simp only [Bool.and_eq_true, decide_eq_true_eq] at hh
        obtain ⟨⟨h1, h2⟩, h3⟩ := hh
        rw [hasT_eq, if_neg b1, if_neg (by omega), if_pos (by omega), decide_eq_true h1, decide_eq_true (h2.trans hn)]
        exact zip_trans a.list b.list v.list hl (fun x hx y hy u hu => ih x hx y u (t1 x hx) (u1 y hy) (v1 u hu)) hs h3
      · rw [hasT_eq, if_neg (by omega), if_neg k9, if_neg k10, if_neg k11] at hh
        rw [hasT_eq, if_neg b1, if_neg (by omega), if_neg (by omega), if_neg (by omega), ← he]
        exact hh
theorem SubT_true {a b : Typ} (h : (SubT a b).1 = true) : checkT a = 0 ∧ checkT b = 0 ∧ subT a b = true := by
  unfold SubT at h
  by_cases c : checkT a = 0
  · rw [if_neg (by simpa using c)] at h
    by_cases c' : checkT b = 0
    · rw [if_neg (by simpa using c')] at h; exact ⟨c, c', h⟩
    · rw [if_pos c'] at h; cases h
  · rw [if_pos c] at h; cases h
theorem HasT_ok {t : Typ} {v : Val} (c : checkT t = 0) (c' : checkV v = 0) : HasT t v = (hasT t v, 0) := by
  unfold HasT; rw [if_neg (by simpa using c), if_neg (by simpa using c')]
theorem HasT_true {t : Typ} {v : Val} (h : (HasT t v).1 = true) : checkT t = 0 ∧ checkV v = 0 ∧ hasT t v = true := by
  by_cases c : checkT t = 0
  · by_cases c' : checkV v = 0
    · rw [HasT_ok c c'] at h; exact ⟨c, c', h⟩
    · unfold HasT at h; rw [if_neg (by simpa using c), if_pos c'] at h; cases h
  · unfold HasT at h; rw [if_pos c] at h; cases h
theorem okD_typ3' {n : Nat} {v : Typ} {a b c : Int} : okD n [v.toD, iD a, iD b, iD c] ↔ v.toD.sz + 3 < n ∧ v.toD.Lim := okD_typ3
theorem typ_typ_val {d : List D} (h : FitL tb [.row 26, .row 26, .row 41] d) : ∃ (a b : Typ) (v : Val), d = [a.toD, b.toD, v.toD] := by
  match d, h with
  | [x, y, z], ⟨h1, h2⟩ =>
    obtain ⟨a, ha⟩ := one_typ (d := [x]) ⟨h1, trivial⟩
    obtain ⟨b, v, hb⟩ := typ_val (d := [y, z]) h2
    cases ha; cases hb
    exact ⟨a, b, v, rfl⟩
/-- calamus/calamuslaw11.TypesParts: func 4, params [26, 26, 41], ntmps 64. -/
def heads_lparts : List Hd := []
def entry_lparts : Tree :=
  (.giv (.app 1000 [])
    (.giv (.app 1000 [(.pr .row [(.pr (.cell 0) [(.var 0)]), (.pr (.cell 1) [(.var 0)]), (.pr (.cell 2) [(.var 0)])]), (.lit (.int .i64 0)), (.lit (.int .i64 32768)), (.lit (.int .i64 0))])
      (.ite (.pr (.icmp .gtr) [(.app 72 [(.pr .row [(.pr (.cell 0) [(.var 0)]), (.pr (.cell 1) [(.var 0)]), (.pr (.cell 2) [(.var 0)])]), (.lit (.int .i64 0)), (.lit (.int .i64 32768)), (.lit (.int .i64 0))]), (.lit (.int .i64 32768))])
        (.leaf (.ret (.lit (.bool true))))
        (.giv (.app 1000 [(.pr .row [(.pr (.cell 0) [(.var 0)]), (.pr (.cell 1) [(.var 0)]), (.pr (.cell 2) [(.var 0)])])])
          (.ite (.app 73 [(.pr .row [(.pr (.cell 0) [(.var 0)]), (.pr (.cell 1) [(.var 0)]), (.pr (.cell 2) [(.var 0)])])])
            (.leaf (.ret (.lit (.bool true))))
            (.giv (.app 1000 [(.pr .row [(.pr (.cell 0) [(.var 1)]), (.pr (.cell 1) [(.var 1)]), (.pr (.cell 2) [(.var 1)])]), (.lit (.int .i64 0)), (.lit (.int .i64 32768)), (.lit (.int .i64 0))])
              (.ite (.pr (.icmp .gtr) [(.app 72 [(.pr .row [(.pr (.cell 0) [(.var 1)]), (.pr (.cell 1) [(.var 1)]), (.pr (.cell 2) [(.var 1)])]), (.lit (.int .i64 0)), (.lit (.int .i64 32768)), (.lit (.int .i64 0))]), (.lit (.int .i64 32768))])
                (.leaf (.ret (.lit (.bool true))))
                (.giv (.app 1000 [(.pr .row [(.pr (.cell 0) [(.var 1)]), (.pr (.cell 1) [(.var 1)]), (.pr (.cell 2) [(.var 1)])])])
                  (.ite (.app 73 [(.pr .row [(.pr (.cell 0) [(.var 1)]), (.pr (.cell 1) [(.var 1)]), (.pr (.cell 2) [(.var 1)])])])
                    (.leaf (.ret (.lit (.bool true))))
                    (.giv (.app 1000 [(.pr .row [(.pr (.cell 0) [(.var 2)]), (.pr (.cell 1) [(.var 2)]), (.pr (.cell 2) [(.var 2)]), (.pr (.cell 3) [(.var 2)]), (.pr (.cell 4) [(.var 2)]), (.pr (.cell 5) [(.var 2)]), (.pr (.cell 6) [(.var 2)]), (.pr (.cell 7) [(.var 2)]), (.pr (.cell 8) [(.var 2)])]), (.lit (.int .i64 0)), (.lit (.int .i64 65536)), (.lit (.int .i64 0))])
                      (.ite (.pr (.icmp .gtr) [(.app 11 [(.pr .row [(.pr (.cell 0) [(.var 2)]), (.pr (.cell 1) [(.var 2)]), (.pr (.cell 2) [(.var 2)]), (.pr (.cell 3) [(.var 2)]), (.pr (.cell 4) [(.var 2)]), (.pr (.cell 5) [(.var 2)]), (.pr (.cell 6) [(.var 2)]), (.pr (.cell 7) [(.var 2)]), (.pr (.cell 8) [(.var 2)])]), (.lit (.int .i64 0)), (.lit (.int .i64 65536)), (.lit (.int .i64 0))]), (.lit (.int .i64 65536))])
                        (.leaf (.ret (.lit (.bool true))))
                        (.giv (.app 1000 [(.pr .row [(.pr (.cell 0) [(.var 2)]), (.pr (.cell 1) [(.var 2)]), (.pr (.cell 2) [(.var 2)]), (.pr (.cell 3) [(.var 2)]), (.pr (.cell 4) [(.var 2)]), (.pr (.cell 5) [(.var 2)]), (.pr (.cell 6) [(.var 2)]), (.pr (.cell 7) [(.var 2)]), (.pr (.cell 8) [(.var 2)])])])
                          (.ite (.app 12 [(.pr .row [(.pr (.cell 0) [(.var 2)]), (.pr (.cell 1) [(.var 2)]), (.pr (.cell 2) [(.var 2)]), (.pr (.cell 3) [(.var 2)]), (.pr (.cell 4) [(.var 2)]), (.pr (.cell 5) [(.var 2)]), (.pr (.cell 6) [(.var 2)]), (.pr (.cell 7) [(.var 2)]), (.pr (.cell 8) [(.var 2)])])])
                            (.leaf (.ret (.lit (.bool true))))
                            (.giv (.app 1000 [(.pr .row [(.pr (.cell 0) [(.var 0)]), (.pr (.cell 1) [(.var 0)]), (.pr (.cell 2) [(.var 0)])]), (.pr .row [(.pr (.cell 0) [(.var 1)]), (.pr (.cell 1) [(.var 1)]), (.pr (.cell 2) [(.var 1)])])])
                              (.giv (.app 1000 [(.pr .row [(.pr (.cell 0) [(.var 0)]), (.pr (.cell 1) [(.var 0)]), (.pr (.cell 2) [(.var 0)])]), (.pr .row [(.pr (.cell 0) [(.var 2)]), (.pr (.cell 1) [(.var 2)]), (.pr (.cell 2) [(.var 2)]), (.pr (.cell 3) [(.var 2)]), (.pr (.cell 4) [(.var 2)]), (.pr (.cell 5) [(.var 2)]), (.pr (.cell 6) [(.var 2)]), (.pr (.cell 7) [(.var 2)]), (.pr (.cell 8) [(.var 2)])])])
                                (.giv (.app 1000 [(.pr .row [(.pr (.cell 0) [(.var 1)]), (.pr (.cell 1) [(.var 1)]), (.pr (.cell 2) [(.var 1)])]), (.pr .row [(.pr (.cell 0) [(.var 2)]), (.pr (.cell 1) [(.var 2)]), (.pr (.cell 2) [(.var 2)]), (.pr (.cell 3) [(.var 2)]), (.pr (.cell 4) [(.var 2)]), (.pr (.cell 5) [(.var 2)]), (.pr (.cell 6) [(.var 2)]), (.pr (.cell 7) [(.var 2)]), (.pr (.cell 8) [(.var 2)])])])
                                  (.ite (.pr (.icmp .neq) [(.pr (.cell 1) [(.app 71 [(.pr .row [(.pr (.cell 0) [(.var 0)]), (.pr (.cell 1) [(.var 0)]), (.pr (.cell 2) [(.var 0)])]), (.pr .row [(.pr (.cell 0) [(.var 1)]), (.pr (.cell 1) [(.var 1)]), (.pr (.cell 2) [(.var 1)])])])]), (.lit (.int .i64 0))])
                                    (.leaf (.ret (.app 74 [])))
                                    (.ite (.pr (.icmp .neq) [(.pr (.cell 1) [(.app 67 [(.pr .row [(.pr (.cell 0) [(.var 0)]), (.pr (.cell 1) [(.var 0)]), (.pr (.cell 2) [(.var 0)])]), (.pr .row [(.pr (.cell 0) [(.var 2)]), (.pr (.cell 1) [(.var 2)]), (.pr (.cell 2) [(.var 2)]), (.pr (.cell 3) [(.var 2)]), (.pr (.cell 4) [(.var 2)]), (.pr (.cell 5) [(.var 2)]), (.pr (.cell 6) [(.var 2)]), (.pr (.cell 7) [(.var 2)]), (.pr (.cell 8) [(.var 2)])])])]), (.lit (.int .i64 0))])
                                      (.leaf (.ret (.app 74 [])))
                                      (.ite (.pr (.icmp .neq) [(.pr (.cell 1) [(.app 67 [(.pr .row [(.pr (.cell 0) [(.var 1)]), (.pr (.cell 1) [(.var 1)]), (.pr (.cell 2) [(.var 1)])]), (.pr .row [(.pr (.cell 0) [(.var 2)]), (.pr (.cell 1) [(.var 2)]), (.pr (.cell 2) [(.var 2)]), (.pr (.cell 3) [(.var 2)]), (.pr (.cell 4) [(.var 2)]), (.pr (.cell 5) [(.var 2)]), (.pr (.cell 6) [(.var 2)]), (.pr (.cell 7) [(.var 2)]), (.pr (.cell 8) [(.var 2)])])])]), (.lit (.int .i64 0))])
                                        (.leaf (.ret (.app 74 [])))
                                        (.ite (.app 74 [])
                                          (.ite (.pr (.cell 0) [(.app 71 [(.pr .row [(.pr (.cell 0) [(.var 0)]), (.pr (.cell 1) [(.var 0)]), (.pr (.cell 2) [(.var 0)])]), (.pr .row [(.pr (.cell 0) [(.var 1)]), (.pr (.cell 1) [(.var 1)]), (.pr (.cell 2) [(.var 1)])])])])
                                            (.ite (.pr (.cell 0) [(.app 67 [(.pr .row [(.pr (.cell 0) [(.var 0)]), (.pr (.cell 1) [(.var 0)]), (.pr (.cell 2) [(.var 0)])]), (.pr .row [(.pr (.cell 0) [(.var 2)]), (.pr (.cell 1) [(.var 2)]), (.pr (.cell 2) [(.var 2)]), (.pr (.cell 3) [(.var 2)]), (.pr (.cell 4) [(.var 2)]), (.pr (.cell 5) [(.var 2)]), (.pr (.cell 6) [(.var 2)]), (.pr (.cell 7) [(.var 2)]), (.pr (.cell 8) [(.var 2)])])])])
                                              (.leaf (.ret (.pr (.cell 0) [(.app 67 [(.pr .row [(.pr (.cell 0) [(.var 1)]), (.pr (.cell 1) [(.var 1)]), (.pr (.cell 2) [(.var 1)])]), (.pr .row [(.pr (.cell 0) [(.var 2)]), (.pr (.cell 1) [(.var 2)]), (.pr (.cell 2) [(.var 2)]), (.pr (.cell 3) [(.var 2)]), (.pr (.cell 4) [(.var 2)]), (.pr (.cell 5) [(.var 2)]), (.pr (.cell 6) [(.var 2)]), (.pr (.cell 7) [(.var 2)]), (.pr (.cell 8) [(.var 2)])])])])))
                                              (.leaf (.ret (.lit (.bool true)))))
                                            (.leaf (.ret (.lit (.bool true)))))
                                          (.leaf (.ret (.lit (.bool false))))))))))))))))))))))))
def trees_lparts : List Tree := []
noncomputable def deps_lparts : List Sig := [q_tSub, q_tHas, q_kparts, q_kwide, q_tawake, q_parts, q_many]
theorem ok_lparts : check q_lparts deps_lparts heads_lparts entry_lparts trees_lparts = true := by kernel_rfl
theorem lparts_ok (n : Nat) : @Ok (I n) q_lparts (fun ds => 4 * D.szL ds + 200 ≤ n ∧ D.LimL ds) := by
  letI := I n
  refine fn_ok (hphi n) ok_lparts (by
    intro q hq
    simp only [deps_lparts, List.mem_cons, List.not_mem_nil, or_false] at hq
    rcases hq with rfl | rfl | rfl | rfl | rfl | rfl | rfl
    · exact tSub_ok n
    · exact tHas_ok n
    · exact kparts_ok n
    · exact kwide_ok n
    · exact tawake_ok n _
    · exact parts_ok n
    · exact many_ok n) (fun _ _ _ => False) (fun _ _ => 0) ?_ (fun j h t d ds hj => by simp [heads_lparts] at hj)
  intro ds hf hp
  obtain ⟨a, b, v, rfl⟩ := typ_typ_val hf
  obtain ⟨hp1, hp2, hp3, hp4⟩ := hp
  simp only [D.szL, D.LimL, and_true] at hp1 hp2 hp3 hp4
  have oz : okD n [] := ⟨by simp only [D.szL]; omega, by simp only [D.LimL]⟩
  have oa : okD n [a.toD, iD 0, iD 32768, iD 0] := okD_typ3.2 ⟨by omega, hp2⟩
  have ob : okD n [b.toD, iD 0, iD 32768, iD 0] := okD_typ3.2 ⟨by omega, hp3⟩
  have ov : okD n [v.toD, iD 0, iD 65536, iD 0] := okD_val3.2 ⟨by omega, hp4⟩
  have oa1 : okD n [a.toD] := okD_one.2 ⟨by omega, hp2⟩
  have ob1 : okD n [b.toD] := okD_one.2 ⟨by omega, hp3⟩
  have ov1 : okD n [v.toD] := okD_one.2 ⟨by omega, hp4⟩
  have oab : okD n [a.toD, b.toD] := okD_two.2 ⟨by omega, hp2, hp3⟩
  have oav : okD n [a.toD, v.toD] := okD_two.2 ⟨by omega, hp2, hp4⟩
  have obv : okD n [b.toD, v.toD] := okD_two.2 ⟨by omega, hp3, hp4⟩
  simp only [entry_lparts, q_lparts, Tree.holds, Out.den, E.den, E.denL, den1, den2, den3, den4, den5, den6, den7, den8, Bool.not_eq_true', Bool.not_eq_false', List.getD_cons_zero, List.getD_cons_succ, true_and, and_true, List.length_map, phi_1000, tat_0, tat_1, tat_2, toDT_put, toD_put, phi_kparts, phi_kwide, phi_parts, phi_many, phi_tSub, phi_tHas, phi_tawake, phi_lparts, oz, oa, ob, ov, oa1, ob1, ov1, oab, oav, obv, row_at0, row_at1]
  refine ⟨fun _ => trivial, fun _ => ⟨fun _ => trivial, fun _ => ⟨fun _ => trivial, fun _ => ⟨fun _ => trivial, fun _ => ⟨fun _ => trivial, fun _ => ⟨fun _ => trivial, fun _ => ⟨fun _ => trivial, fun h1 => ⟨fun _ => trivial, fun h2 => ⟨fun _ => trivial, fun h3 => ⟨fun _ => ⟨fun s1 => ⟨fun s2 => ?_, fun _ => trivial⟩, fun _ => trivial⟩, fun h => by cases h⟩⟩⟩⟩⟩⟩⟩⟩⟩⟩
  obtain ⟨c1, c2, c3⟩ := SubT_true s1
  obtain ⟨_, c4, c5⟩ := HasT_true s2
  rw [HasT_ok c2 c4]
  exact sub_has a b v (checkT_formed c1) (checkT_formed c2) (checkV_formed c4) c3 c5
end Go.Proofs.YtaeeblcdggjokaaDoor.Vk
