/- Functions with loops: cut at the heads of their loops; from head to head each way is one run of the evaluator. -/
import Derived.Test.YtaeeblcdggjokaaDoorSxFn
namespace Go.Ab
set_option linter.unusedVariables false
set_option linter.unusedSimpArgs false
set_option linter.unusedSectionVars false
set_option linter.constructorNameAsVariable false
open Go Go.RowKit

/-- What stands behind a piece of code: code (and how many loops stand ahead of it), a block, a loop. -/
inductive Fr where
  | seq (c : Code) (m : Nat)
  | block (id : Nat)
  | head (j : Nat)
/-- How a run ends: at the end; ahead of a loop; at the end of a loop's round. -/
inductive Rs where
  | done (ex : Ex) (T : Tm) (s : St)
  | enter (j : Nat) (T : Tm) (s : St)
  | again (j : Nat) (T : Tm) (s : St)

def countL : Code → Nat
  | .seq a b => countL a + countL b
  | .block _ b => countL b
  | .cond _ a b => countL a + countL b
  | .loop b => countL b + 1
  | _ => 0
/-- The loops of a piece of code, each with what stands behind it. -/
def headsL : Code → List Fr → Nat → List (Code × List Fr)
  | .seq a b, k, m => headsL a (.seq b (m + countL a) :: k) m ++ headsL b k (m + countL a)
  | .block id b, k, m => headsL b (.block id :: k) m
  | .cond _ a b, k, m => headsL a k m ++ headsL b k (m + countL a)
  | .loop b, k, m => (b, k) :: headsL b (.head m :: k) (m + 1)
  | _, _, _ => []
theorem headsL_length : ∀ (c : Code) (k : List Fr) (m : Nat), (headsL c k m).length = countL c
  | .seq a b, k, m => by unfold headsL countL; rw [List.length_append, headsL_length, headsL_length]
  | .block id b, k, m => by unfold headsL countL; exact headsL_length _ _ _
  | .cond _ a b, k, m => by unfold headsL countL; rw [List.length_append, headsL_length, headsL_length]
  | .loop b, k, m => by unfold headsL countL; rw [List.length_cons, headsL_length]
  | .skip, _, _ => rfl
  | .region .., _, _ => rfl
  | .rangeFunc .., _, _ => rfl
  | .exit _, _, _ => rfl
  | .scope _, _, _ => rfl
  | .label _, _, _ => rfl
  | .goto _, _, _ => rfl
  | .ret, _, _ => rfl
  | .refuse _, _, _ => rfl

section
variable (hd : List (Code × List Fr))
def SegL (l : List (Code × List Fr)) (m : Nat) : Prop := ∀ i x, l[i]? = some x → hd[m + i]? = some x
def FrOk : List Fr → Prop
  | [] => True
  | .seq c m :: k => SegL hd (headsL c k m) m ∧ FrOk k
  | .block _ :: k => FrOk k
  | .head _ :: k => FrOk k
end
theorem SegL.left {hd a b : List (Code × List Fr)} {m : Nat} (h : SegL hd (a ++ b) m) : SegL hd a m := fun i x hi => h i x (by
  rw [List.getElem?_append_left (List.getElem?_eq_some_iff.1 hi).1]; exact hi)
theorem SegL.right {hd a b : List (Code × List Fr)} {m : Nat} (h : SegL hd (a ++ b) m) : SegL hd b (m + a.length) := fun i x hi => by
  have := h (a.length + i) x (by rw [List.getElem?_append_right (Nat.le_add_right _ _)]; rw [Nat.add_sub_cancel_left]; exact hi)
  rw [← Nat.add_assoc] at this; exact this
theorem SegL.tail {hd b : List (Code × List Fr)} {a : Code × List Fr} {m : Nat} (h : SegL hd (a :: b) m) : hd[m]? = some a ∧ SegL hd b (m + 1) :=
  ⟨h 0 a rfl, fun i x hi => by have := h (i + 1) x (by rw [List.getElem?_cons_succ]; exact hi); rw [Nat.add_assoc, Nat.add_comm 1 i]; exact this⟩
theorem heads_inv {hd : List (Code × List Fr)} : ∀ (c : Code) (k : List Fr) (m : Nat), SegL hd (headsL c k m) m → FrOk hd k → ∀ i b k', (headsL c k m)[i]? = some (b, k') → SegL hd (headsL b (.head (m + i) :: k') (m + i + 1)) (m + i + 1) ∧ FrOk hd k'
  | .seq a b, k, m, h, hk, i, b', k', hi => by
    unfold headsL at h hi
    have hr := h.right
    rw [headsL_length] at hr
    rw [List.getElem?_append] at hi
    split at hi
    · exact heads_inv a _ m h.left ⟨hr, hk⟩ i b' k' hi
    · rename_i hge
      rw [headsL_length] at hi hge
      have := heads_inv b k _ hr hk _ b' k' hi
      have e : m + countL a + (i - countL a) = m + i := by omega
      rw [e] at this; exact this
  | .block id b, k, m, h, hk, i, b', k', hi => by
    unfold headsL at h hi
    exact heads_inv b (.block id :: k) m h hk i b' k' hi
  | .cond c a b, k, m, h, hk, i, b', k', hi => by
    unfold headsL at h hi
    have hr := h.right
    rw [headsL_length] at hr
    rw [List.getElem?_append] at hi
    split at hi
    · exact heads_inv a _ m h.left hk i b' k' hi
    · rename_i hge
      rw [headsL_length] at hi hge
      have := heads_inv b k _ hr hk _ b' k' hi
      have e : m + countL a + (i - countL a) = m + i := by omega
      rw [e] at this; exact this
  | .loop b, k, m, h, hk, i, b', k', hi => by
    unfold headsL at h hi
    cases i with
    | zero =>
      simp only [List.getElem?_cons_zero, Option.some.injEq, Prod.mk.injEq] at hi
      obtain ⟨rfl, rfl⟩ := hi
      exact ⟨h.tail.2, hk⟩
    | succ i =>
      rw [List.getElem?_cons_succ] at hi
      have := heads_inv b (.head m :: k) (m + 1) h.tail.2 hk i b' k' hi
      have e : m + 1 + i = m + (i + 1) := by omega
      rw [e] at this; exact this
  | .skip, _, _, _, _, i, _, _, hi => by simp [headsL] at hi
  | .region .., _, _, _, _, i, _, _, hi => by simp [headsL] at hi
  | .rangeFunc .., _, _, _, _, i, _, _, hi => by simp [headsL] at hi
  | .exit _, _, _, _, _, i, _, _, hi => by simp [headsL] at hi
  | .scope _, _, _, _, _, i, _, _, hi => by simp [headsL] at hi
  | .label _, _, _, _, _, i, _, _, hi => by simp [headsL] at hi
  | .goto _, _, _, _, _, i, _, _, hi => by simp [headsL] at hi
  | .ret, _, _, _, _, i, _, _, hi => by simp [headsL] at hi
  | .refuse _, _, _, _, _, i, _, _, hi => by simp [headsL] at hi

section
variable (G : Nat → Option (List AV)) (run : Code → Tm → St → Option (Ex × Tm × St))
def evH : Nat → Sum (Code × Nat) Ex → Tm → St → List Fr → Option Rs
  | 0, _, _, _, _ => none
  | n + 1, .inl (c, m), T, s, k =>
    match c with
    | .seq a b => evH n (.inl (a, m)) T s (.seq b (m + countL a) :: k)
    | .block id b => evH n (.inl (b, m)) T s (.block id :: k)
    | .cond c a b =>
      match cnd G T s c with
      | some true => evH n (.inl (a, m)) T s k
      | some false => evH n (.inl (b, m + countL a)) T s k
      | none => none
    | .loop b => some (.enter m T s)
    | c =>
      match run c T s with
      | some (ex, T, s) => evH n (.inr ex) T s k
      | none => none
  | n + 1, .inr ex, T, s, k =>
    match k with
    | [] => some (.done ex T s)
    | .seq b m :: k =>
      match ex with
      | .normal => evH n (.inl (b, m)) T s k
      | ex => evH n (.inr ex) T s k
    | .block id :: k =>
      match ex with
      | .exit i => if i = id then evH n (.inr .normal) T s k else evH n (.inr (.exit i)) T s k
      | ex => evH n (.inr ex) T s k
    | .head j :: k =>
      match ex with
      | .normal => some (.again j T s)
      | ex => evH n (.inr ex) T s k
end

section
variable [Interp] {P : Program} {G : Nat → Option (List AV)} {B0 : Nat} {w0 w : World} {s : St} {M : Mp}
/-- What is asked behind a piece of code. -/
def wpk (F : Fence) (P : Program) (J : Nat → Act → World → Prop) (Q : Exit → Act → World → Prop) : List Fr → Exit → Act → World → Prop
  | [] => Q
  | .seq c _ :: k => Exit.then (c.wpIn F 0 P (wpk F P J Q k)) (wpk F P J Q k)
  | .block id :: k => Exit.inBlock id (wpk F P J Q k)
  | .head j :: k => Exit.then (J j) (wpk F P J Q k)
theorem then_mono {X Y : Act → World → Prop} {Q R : Exit → Act → World → Prop} (h : ∀ a w, X a w → Y a w) (hq : ∀ e a w, Q e a w → R e a w) (e : Exit) (a : Act) (w : World) (k : Exit.then X Q e a w) : Exit.then Y R e a w := by
  cases e with
  | normal => exact h a w k
  | _ => exact hq _ a w k
theorem wpk_mono {F : Fence} {J J' : Nat → Act → World → Prop} {Q : Exit → Act → World → Prop} (h : ∀ j a w, J j a w → J' j a w) : ∀ (k : List Fr) (e : Exit) (a : Act) (w : World), wpk F P J Q k e a w → wpk F P J' Q k e a w
  | [], _, _, _, hk => hk
  | .seq c m :: k, e, a, w, hk => then_mono (fun a w hc => wpIn_mono hc fun e a w => wpk_mono h k e a w) (wpk_mono h k) e a w hk
  | .block id :: k, e, a, w, hk => by
    have ih := wpk_mono (F := F) (Q := Q) h k
    unfold wpk Exit.inBlock at hk ⊢
    cases e with
    | exit i =>
      simp only at hk ⊢
      split at hk <;> rename_i hi
      · rw [if_pos hi]; exact ih _ _ _ hk
      · rw [if_neg hi]; exact ih _ _ _ hk
    | _ => exact ih _ _ _ hk
  | .head j :: k, e, a, w, hk => then_mono (h j) (wpk_mono h k) e a w hk

theorem evH_sound {run : Code → Tm → St → Option (Ex × Tm × St)} {ro : Option Nat} {hd : List (Code × List Fr)} {J : Nat → Act → World → Prop} {Q : Exit → Act → World → Prop} (hrun : Goes P G B0 w0 ro run) : ∀ (n : Nat) {i : Sum (Code × Nat) Ex} {T : Tm} {s : St} {k : List Fr} {rs : Rs}, evH G run n i T s k = some rs → FrOk hd k →
    (∀ c m, i = .inl (c, m) → SegL hd (headsL c k m) m) →
    ∀ (w : World) (M : Mp) (a : Act), Sim G B0 w0 w s M → TmR w s M T a →
      (∀ ex T' s', rs = .done ex T' s' → ∀ e a' w' M', ExR w' s' M' ex e → TmR w' s' M' T' a' → Sim G B0 w0 w' s' M' → Ext w s M w' s' M' → Q e a' w') →
      (∀ j T' s' b k', rs = .enter j T' s' → hd[j]? = some (b, k') → ∀ a' w' M', TmR w' s' M' T' a' → Sim G B0 w0 w' s' M' → Ext w s M w' s' M' → (Code.loop b).wpIn (FW ro) 0 P (wpk (FW ro) P J Q k') a' w') →
      (∀ j T' s', rs = .again j T' s' → ∀ a' w' M', TmR w' s' M' T' a' → Sim G B0 w0 w' s' M' → Ext w s M w' s' M' → J j a' w') →
      (match i with
        | .inl (c, _) => c.wpIn (FW ro) 0 P (wpk (FW ro) P J Q k) a w
        | .inr ex => ∀ e, ExR w s M ex e → wpk (FW ro) P J Q k e a w)
  | 0, i, T, s, k, rs, h => by cases h
  | n + 1, .inl (c, m), T, s, k, rs, h => by
    intro hk hseg w M a hs hT hdn hl hag
    have hseg := hseg c m rfl
    unfold evH at h
    have plain : (match run c T s with
        | some (ex, T, s) => evH G run n (.inr ex) T s k
        | none => none) = some rs → c.wpIn (FW ro) 0 P (wpk (FW ro) P J Q k) a w := fun h => by
      split at h
      · rename_i ex T1 s1 hr
        refine hrun c T s ex T1 s1 hr w M a _ hs hT fun e a1 w1 M1 k0 k1 k2 k3 => ?_
        exact evH_sound hrun n h hk (fun _ _ e => by cases e) _ _ _ k2 k1 (fun ex T' s' hrs e a' w' M' j0 j1 j2 j3 => hdn ex T' s' hrs e a' w' M' j0 j1 j2 (k3.trans j3)) (fun j T' s' b k' hrs hj a' w' M' j1 j2 j3 => hl j T' s' b k' hrs hj a' w' M' j1 j2 (k3.trans j3)) (fun j T' s' hrs a' w' M' j1 j2 j3 => hag j T' s' hrs a' w' M' j1 j2 (k3.trans j3)) e k0
      · cases h
    cases c with
    | seq x y =>
      unfold headsL at hseg
      have hr := hseg.right
      rw [headsL_length] at hr
      exact wpIn_seq (evH_sound hrun n h ⟨hr, hk⟩ (fun c m e => by cases e; exact hseg.left) _ _ _ hs hT hdn hl hag)
    | block id b => exact wpIn_block (evH_sound hrun n h (k := .block id :: k) hk (fun c m e => by cases e; exact hseg) _ _ _ hs hT hdn hl hag)
    | cond c x y =>
      unfold headsL at hseg
      have hr := hseg.right
      rw [headsL_length] at hr
      simp only at h
      split at h
      · rename_i hc
        exact wpIn_cond_true (cnd_sound hs hT hc) (evH_sound hrun n h hk (fun c m e => by cases e; exact hseg.left) _ _ _ hs hT hdn hl hag)
      · rename_i hc
        exact wpIn_cond_false (cnd_sound hs hT hc) (evH_sound hrun n h hk (fun c m e => by cases e; exact hr) _ _ _ hs hT hdn hl hag)
      · cases h
    | loop b =>
      simp only [Option.some.injEq] at h
      unfold headsL at hseg
      exact hl m T s b k h.symm hseg.tail.1 a w M hT hs (Ext.refl _ _ _)
    | _ => exact plain h
  | n + 1, .inr ex, T, s, k, rs, h => by
    intro hk hseg w M a hs hT hdn hl hag
    unfold evH at h
    intro e he
    cases k with
    | nil =>
      simp only [Option.some.injEq] at h
      exact hdn ex T s h.symm e a w M he hT hs (Ext.refl _ _ _)
    | cons fr k =>
      cases fr with
      | seq b m =>
        cases ex with
        | normal =>
          obtain rfl : e = .normal := he
          exact evH_sound hrun n h hk.2 (fun c m e => by cases e; exact hk.1) _ _ _ hs hT hdn hl hag
        | exit i =>
          obtain rfl : e = .exit i := he
          exact evH_sound hrun n h hk.2 (fun _ _ e => by cases e) _ _ _ hs hT hdn hl hag (.exit i) rfl
        | goto l =>
          obtain rfl : e = .goto l := he
          exact evH_sound hrun n h hk.2 (fun _ _ e => by cases e) _ _ _ hs hT hdn hl hag (.goto l) rfl
        | ret =>
          obtain rfl : e = .ret := he
          exact evH_sound hrun n h hk.2 (fun _ _ e => by cases e) _ _ _ hs hT hdn hl hag .ret rfl
        | panic y =>
          have he' := he
          obtain ⟨v, rfl, _⟩ := he
          exact evH_sound hrun n h hk.2 (fun _ _ e => by cases e) _ _ _ hs hT hdn hl hag _ he'
      | block id =>
        have hk : FrOk hd k := hk
        cases ex with
        | normal =>
          obtain rfl : e = .normal := he
          exact evH_sound hrun n h hk (fun _ _ e => by cases e) _ _ _ hs hT hdn hl hag .normal rfl
        | exit i =>
          obtain rfl : e = .exit i := he
          simp only at h
          show Exit.inBlock id (wpk (FW ro) P J Q k) (.exit i) a w
          unfold Exit.inBlock
          simp only
          split at h
          · rename_i e1
            rw [if_pos e1]
            exact evH_sound hrun n h hk (fun _ _ e => by cases e) _ _ _ hs hT hdn hl hag .normal rfl
          · rename_i e1
            rw [if_neg e1]
            exact evH_sound hrun n h hk (fun _ _ e => by cases e) _ _ _ hs hT hdn hl hag (.exit i) rfl
        | goto l =>
          obtain rfl : e = .goto l := he
          exact evH_sound hrun n h hk (fun _ _ e => by cases e) _ _ _ hs hT hdn hl hag (.goto l) rfl
        | ret =>
          obtain rfl : e = .ret := he
          exact evH_sound hrun n h hk (fun _ _ e => by cases e) _ _ _ hs hT hdn hl hag .ret rfl
        | panic y =>
          have he' := he
          obtain ⟨v, rfl, _⟩ := he
          exact evH_sound hrun n h hk (fun _ _ e => by cases e) _ _ _ hs hT hdn hl hag _ he'
      | head j =>
        have hk : FrOk hd k := hk
        cases ex with
        | normal =>
          obtain rfl : e = .normal := he
          simp only [Option.some.injEq] at h
          exact hag j T s h.symm a w M hT hs (Ext.refl _ _ _)
        | exit i =>
          obtain rfl : e = .exit i := he
          exact evH_sound hrun n h hk (fun _ _ e => by cases e) _ _ _ hs hT hdn hl hag (.exit i) rfl
        | goto l =>
          obtain rfl : e = .goto l := he
          exact evH_sound hrun n h hk (fun _ _ e => by cases e) _ _ _ hs hT hdn hl hag (.goto l) rfl
        | ret =>
          obtain rfl : e = .ret := he
          exact evH_sound hrun n h hk (fun _ _ e => by cases e) _ _ _ hs hT hdn hl hag .ret rfl
        | panic y =>
          have he' := he
          obtain ⟨v, rfl, _⟩ := he
          exact evH_sound hrun n h hk (fun _ _ e => by cases e) _ _ _ hs hT hdn hl hag _ he'

/-- All loops of a function at once: each round, and each way from one loop to the next, makes the measure less. -/
theorem heads_sound {run : Code → Tm → St → Option (Ex × Tm × St)} {ro : Option Nat} {Q : Exit → Act → World → Prop} (hrun : Goes P G B0 w0 ro run) (c0 : Code) (HI : Nat → Nat → Act → World → Prop)
    (hround : ∀ j n a w b k, (headsL c0 [] 0)[j]? = some (b, k) → HI j n a w → ∃ T s M fuel rs, Sim G B0 w0 w s M ∧ TmR w s M T a ∧ evH G run fuel (.inl (b, j + 1)) T s (.head j :: k) = some rs ∧
      (∀ ex T' s', rs = .done ex T' s' → ∀ e a' w' M', ExR w' s' M' ex e → TmR w' s' M' T' a' → Sim G B0 w0 w' s' M' → Ext w s M w' s' M' → Q e a' w') ∧
      (∀ i T' s', rs = .enter i T' s' ∨ rs = .again i T' s' → ∀ a' w' M', TmR w' s' M' T' a' → Sim G B0 w0 w' s' M' → Ext w s M w' s' M' → ∃ m, m < n ∧ HI i m a' w')) :
    ∀ (n N : Nat), n ≤ N → ∀ j b k a w, (headsL c0 [] 0)[j]? = some (b, k) → HI j n a w → (Code.loop b).wpIn (FW ro) 0 P (wpk (FW ro) P (fun i a w => ∃ m, m < N ∧ HI i m a w) Q k) a w := by
  have hseg0 : SegL (headsL c0 [] 0) (headsL c0 [] 0) 0 := fun i x h => by rw [Nat.zero_add]; exact h
  intro n
  induction n using Nat.strongRecOn with
  | _ n ih =>
    intro N hN j b k a w hj hi
    refine loop_rule (fun n' a w => n' ≤ n ∧ HI j n' a w) (fun n' a w ⟨hn', hi⟩ => ?_) (n := n) ⟨Nat.le_refl _, hi⟩
    obtain ⟨T, s, M, fuel, rs, hs, hT, hev, h1, h2⟩ := hround j n' a w b k hj hi
    have hinv := heads_inv c0 [] 0 hseg0 trivial j b k hj
    rw [Nat.zero_add] at hinv
    have := evH_sound (hd := headsL c0 [] 0) (J := fun i a w => ∃ m, m < n' ∧ HI i m a w) (Q := Q) hrun fuel hev (by exact hinv.2) (fun c m e => by cases e; exact hinv.1) w M a hs hT h1
      (fun i T' s' b' k' hrs hi' a' w' M' j1 j2 j3 => by
        obtain ⟨m, hm, hi2⟩ := h2 i T' s' (.inl hrs) a' w' M' j1 j2 j3
        exact ih m (by omega) n' (by omega) i b' k' a' w' hi' hi2)
      (fun i T' s' hrs a' w' M' j1 j2 j3 => h2 i T' s' (.inr hrs) a' w' M' j1 j2 j3)
    refine wpIn_mono this fun e a1 w1 hq => ?_
    refine then_mono (fun a2 w2 ⟨m, hm, hh⟩ => ⟨m, hm, by omega, hh⟩) (wpk_mono (fun i a2 w2 hJ => hJ.imp fun m hm => ⟨by omega, hm.2⟩) k) e a1 w1 hq
end
end Go.Ab
