/- A contract of a function to which objects are lent, taken at a call. -/
import Derived.Test.YtaeeblcdggjokaaDoorSxTreeM
namespace Go.Ab
set_option linter.unusedVariables false
set_option linter.unusedSimpArgs false
set_option linter.unusedSectionVars false
set_option linter.constructorNameAsVariable false
open Go Go.RowKit

def varN : List Ent → Nat
  | [] => 0
  | .any :: r => varN r
  | .con _ :: r => varN r
  | _ :: r => varN r + 1
def isBack : Ent → Bool
  | .bx _ _ | .mp _ _ => true
  | _ => false
def putL : St → List (Nat × AObj) → St
  | s, [] => s
  | s, (i, o) :: r => putL (s.put i o) r
def resAM (k : Kn) (ve : Nat → E) (tk : Nat → Nat) (hs : List Ent) : AV :=
  match hs with
  | [h] => ((valsE k ve tk 0 0 [h]).head?).getD und
  | hs => .tup (valsE k ve tk 0 0 hs)
/-- The contract, taken at a call. -/
def ctrOrcM (tb : List (Nat × List CT)) (q : SigM) (need : List E → List E) : Call := fun fr args s =>
  match fr with
  | .func f =>
    if Nat.beq f q.f && decide (s.k.tb = tb) then
      let K := keptL q.args args
      if nodupN K && nodupN q.cur && allLt q.cur K.length && q.backE.all isBack && Nat.beq q.cur.length q.backE.length && Nat.ble (s.n + objN q.res) Tr.lid then
        match arrE s (fun _ => false) q.args args with
        | some es =>
          if (need es).all fun e => hasE e s.k.fx then
            match (if q.pan.isSome then ask s.k (.app (3000 + q.g) es) else some true) with
            | some true =>
              let ve : Nat → E := fun j => .pr (.cell j) [.app q.g es]
              some (resAM s.k ve (fun o => s.n + o) q.res, newL (putL (killL s K) ((q.cur.map fun o => K.getD o 0).zip (objsE s.k ve (varN q.res) q.backE))) (objsE s.k ve 0 q.res))
            | some false =>
              match q.pan with
              | some a => some (.pan a, killL s K)
              | none => none
            | none => none
          else none
        | none => none
      else none
    else none
  | _ => none
theorem objsE_len {k : Kn} {ve : Nat → E} : ∀ {es : List Ent} {i : Nat}, (objsE k ve i es).length = objN es
  | [], _ => rfl
  | e :: r, i => by
    cases e <;> simp only [objsE, objN, isObj, List.length_cons, objsE_len (es := r)] <;> simp <;> omega
theorem objsE_append {k : Kn} {ve : Nat → E} : ∀ {a b : List Ent} {i : Nat}, objsE k ve i (a ++ b) = objsE k ve i a ++ objsE k ve (i + varN a) b
  | [], b, i => by simp [objsE, varN]
  | e :: r, b, i => by
    rw [List.cons_append]
    cases e <;> simp only [objsE, varN, List.cons_append, objsE_append (a := r) (b := b)] <;> (try rw [show i + 1 + varN r = i + (varN r + 1) by omega])
theorem valsE_append {k : Kn} {ve : Nat → E} {tk : Nat → Nat} : ∀ {a b : List Ent} {i o : Nat}, valsE k ve tk i o (a ++ b) = valsE k ve tk i o a ++ valsE k ve tk (i + varN a) (o + objN a) b
  | [], b, i, o => by simp [valsE, varN, objN]
  | e :: r, b, i, o => by
    rw [List.cons_append]
    cases e <;> simp only [valsE, varN, objN, isObj, List.cons_append, valsE_append (a := r) (b := b)] <;> (try rw [show i + 1 + varN r = i + (varN r + 1) by omega]) <;> simp <;> (try rw [show o + 1 + objN r = o + (1 + objN r) by omega])
theorem objsE_live {k : Kn} {ve : Nat → E} : ∀ {es : List Ent} {i j : Nat} {ob : AObj}, (objsE k ve i es)[j]? = some ob → ob.live
  | [], _, _, _, h => by simp [objsE] at h
  | e :: r, i, j, ob, h => by
    cases e <;> simp only [objsE] at h <;> first | exact objsE_live h | (cases j with
      | zero => simp only [List.getElem?_cons_zero, Option.some.injEq] at h; subst h; trivial
      | succ j => simp only [List.getElem?_cons_succ] at h; exact objsE_live h)
theorem objsE_back {k : Kn} {ve : Nat → E} : ∀ {es : List Ent} {i j : Nat} {ob : AObj}, es.all isBack = true → (objsE k ve i es)[j]? = some ob → ∀ tip e, ob ≠ .row tip e
  | [], _, _, _, _, h => by simp [objsE] at h
  | e :: r, i, j, ob, hb, h => by
    rw [List.all_cons, Bool.and_eq_true] at hb
    cases e <;> (try (cases hb.1; done)) <;> simp only [objsE] at h <;> (cases j with
      | zero => simp only [List.getElem?_cons_zero, Option.some.injEq] at h; subst h; intro tip e h; cases h
      | succ j => simp only [List.getElem?_cons_succ] at h; exact objsE_back hb.2 h)
theorem objN_back : ∀ {es : List Ent}, es.all isBack = true → objN es = es.length
  | [], _ => rfl
  | e :: r, h => by
    rw [List.all_cons, Bool.and_eq_true] at h
    cases e <;> (try (cases h.1; done)) <;> (simp only [objN, isObj, List.length_cons, objN_back h.2, if_true]; omega)

section
variable [Interp]
theorem putL_get : ∀ {l : List (Nat × AObj)} {s : St}, (l.map (·.1)).Nodup → (∀ x, x ∈ l → x.1 < Tr.lid) → (putL s l).n = s.n ∧ (putL s l).k = s.k ∧ (∀ (p : Nat) (i : Nat) (o : AObj), l[p]? = some (i, o) → (putL s l).get i = some o) ∧ ∀ i, i ∉ l.map (·.1) → (putL s l).get i = s.get i
  | [], s, _, _ => ⟨rfl, rfl, fun p i o h => by simp at h, fun i _ => rfl⟩
  | (j, x) :: r, s, hn, hl => by
    rw [List.map_cons, List.nodup_cons] at hn
    have hj : j < Tr.lid := hl (j, x) (List.mem_cons_self ..)
    obtain ⟨k1, k2, k3, k4⟩ := putL_get (l := r) (s := s.put j x) hn.2 fun y hy => hl y (List.mem_cons_of_mem _ hy)
    refine ⟨k1, k2, fun p i o h => ?_, fun i hi => ?_⟩
    · cases p with
      | zero =>
        simp only [List.getElem?_cons_zero, Option.some.injEq, Prod.mk.injEq] at h
        obtain ⟨rfl, rfl⟩ := h
        show (putL (s.put j x) r).get j = _
        rw [k4 j hn.1, St.get_put _ _ _ _ hj, if_pos rfl]
      | succ p => exact k3 p i o (by simpa using h)
    · rw [List.map_cons, List.mem_cons, not_or] at hi
      show (putL (s.put j x) r).get i = _
      rw [k4 i hi.2, St.get_put _ _ _ _ hj, if_neg hi.1]
end
section
variable [Interp] {P : Program} {G : Nat → Option (List AV)} {B0 : Nat} {w0 w : World} {s : St} {M : Mp} {tb : List (Nat × List CT)}
theorem objR_lt {w : World} {s : St} {M : Mp} {b c : Nat} {ob : AObj} (hr : ObjR w s M b c ob) (hl : ob.live) : b < w.heap.size := by
  have this : ∀ (b : Nat) (oo : Obj), w.heap[b]? = some oo → b < w.heap.size := fun b oo h => (Array.getElem?_eq_some_iff.1 h).1
  cases ob with
  | box cs z => obtain ⟨c, e', fr, a1, _⟩ := hr; exact this _ _ a1
  | row tip z => obtain ⟨c, e', fr, a1, _⟩ := hr; exact this _ _ a1
  | fz cs z => obtain ⟨c, e', fr, a1, _⟩ := hr; exact this _ _ a1
  | map cs => obtain ⟨c, e', a1, _⟩ := hr; exact this _ _ a1
  | dead => exact hl.elim
  | loop T ps asg body st pend => obtain ⟨rc, a1, _⟩ := hr; exact this _ _ a1
  | defs => exact this _ _ hr
  | sym k =>
    cases k with
    | map kt ct e => obtain ⟨c, e', rows, a1, _⟩ := hr; exact this _ _ a1
    | arr ct e => obtain ⟨c, e', fr, rows, a1, _⟩ := hr; exact this _ _ a1
/-- An object whose block is as it was. -/
theorem objR_same {w' : World} {s' : St} {M' : Mp} {b c : Nat} {ob : AObj} (hE : Ext w s M w' s' M') (hk : w'.heap[b]? = w.heap[b]?) (h : ObjR w s M b c ob) : ObjR w' s' M' b c ob := by
  cases ob with
  | box cs esz => obtain ⟨c, e', fr, a1, a2, a3⟩ := h; exact ⟨c, e', fr, hk.trans a1, a2.ext hE, a3⟩
  | fz cs esz => obtain ⟨c, e', fr, a1, a2, a3⟩ := h; exact ⟨c, e', fr, hk.trans a1, a2.ext hE, a3⟩
  | row tip esz => obtain ⟨c, e', fr, a1, a2, a3, a4⟩ := h; exact ⟨c, e', fr, hk.trans a1, a2, by rw [hE.keep.1]; exact a3, a4⟩
  | map es => obtain ⟨c, k, a1, a2⟩ := h; exact ⟨c, k, hk.trans a1, a2.ext hE⟩
  | dead => trivial
  | loop T ps asg body st pend => obtain ⟨rc, a1, a2, a3, a4, a5, a6, a7, a8⟩ := h; exact ⟨rc, hk.trans a1, a2, a3, a4, a5, a6, a7, fun t => (a8 t).ext hE⟩
  | defs => exact hk.trans h
  | sym k => show SymR _ _ _ _; rw [hk, hE.keep.1]; exact h
/-- Behind a call: what was lent stands as it came back, what is new stands behind it. -/
def afterS (s : St) (K bt : List Nat) (bo no : List AObj) : St := newL (putL (killL s K) (bt.zip bo)) no
def afterM (s : St) (M : Mp) (nb : List (Nat × Nat)) : Mp := ⟨fun i => if i < s.n then M.blk i else blkL nb (i - s.n), fun i => if i < s.n then M.cap i else capL nb (i - s.n), M.env, M.out⟩
theorem zip_get {α β : Type} : ∀ {a : List α} {b : List β} {p : Nat} {x : α} {y : β}, a[p]? = some x → b[p]? = some y → (a.zip b)[p]? = some (x, y)
  | [], _, p, x, y, h, _ => by simp at h
  | _ :: _, [], p, x, y, _, h => by simp at h
  | a :: r, b :: t, 0, x, y, h, k => by
    simp only [List.getElem?_cons_zero, Option.some.injEq] at h k
    subst h k; rfl
  | a :: r, b :: t, p + 1, x, y, h, k => by
    rw [List.zip_cons_cons, List.getElem?_cons_succ]
    exact zip_get (by simpa using h) (by simpa using k)
theorem zip_fst : ∀ {a : List Nat} {b : List AObj}, a.length = b.length → (a.zip b).map (·.1) = a
  | [], _, _ => by simp
  | a :: r, b :: t, h => by rw [List.zip_cons_cons, List.map_cons, zip_fst (by simpa using h)]
  | _ :: _, [], h => by cases h
theorem after_get (hs : Sim G B0 w0 w s M) {K bt : List Nat} {bo no : List AObj} (hK : ∀ tk, tk ∈ K → tk < s.n ∧ ∃ ob, s.get tk = some ob ∧ ob.live) (hbt : bt.length = bo.length) (hbK : ∀ i, i ∈ bt → i ∈ K) (hbn : bt.Nodup) (hroom : s.n + no.length ≤ Tr.lid) :
    (afterS s K bt bo no).n = s.n + no.length ∧ (afterS s K bt bo no).k = s.k ∧ (∀ (p i : Nat) (o : AObj), bt[p]? = some i → bo[p]? = some o → (afterS s K bt bo no).get i = some o) ∧ (∀ (p : Nat) (o : AObj), no[p]? = some o → (afterS s K bt bo no).get (s.n + p) = some o) ∧
    (∀ i, i < s.n → i ∉ K → (afterS s K bt bo no).get i = s.get i) ∧
    ∀ (i : Nat) (o : AObj), i < s.n + no.length → (afterS s K bt bo no).get i = some o → o.live → (i < s.n ∧ i ∉ K ∧ s.get i = some o) ∨ (∃ p : Nat, bt[p]? = some i ∧ bo[p]? = some o) ∨ ∃ p : Nat, i = s.n + p ∧ no[p]? = some o := by
  obtain ⟨_, _, q3, q4, q5⟩ := kill_list (w := w) (M := M) hs (fun b hb => (hK b hb).1)
  have hzf := zip_fst hbt
  obtain ⟨p1, p2, p3, p4⟩ := putL_get (l := bt.zip bo) (s := killL s K) (by rw [hzf]; exact hbn) (fun x hx => by
    have : x.1 ∈ (bt.zip bo).map (·.1) := List.mem_map_of_mem hx
    rw [hzf] at this
    exact Nat.lt_of_lt_of_le (hK _ (hbK _ this)).1 hs.bound)
  rw [hzf] at p4
  obtain ⟨n1, n2, n3⟩ := newL_get (l := no) (s := putL (killL s K) (bt.zip bo)) (by rw [p1, q3]; exact hroom)
  rw [p1, q3] at n1 n3
  have g1 : ∀ (p i : Nat) (o : AObj), bt[p]? = some i → bo[p]? = some o → (afterS s K bt bo no).get i = some o := fun p i o h1 h2 => by
    have hi := (hK i (hbK i (List.mem_of_getElem? h1))).1
    have := n3 i (by omega)
    rw [if_pos hi, p3 p i o (zip_get h1 h2)] at this
    exact this
  have g2 : ∀ (p : Nat) (o : AObj), no[p]? = some o → (afterS s K bt bo no).get (s.n + p) = some o := fun p o h => by
    have hp := (List.getElem?_eq_some_iff.1 h).1
    have := n3 (s.n + p) (by omega)
    rw [if_neg (by omega), show s.n + p - s.n = p by omega, h] at this
    exact this
  have g3 : ∀ i, i < s.n → i ∉ K → (afterS s K bt bo no).get i = s.get i := fun i hi hk => by
    have := n3 i (by omega)
    rw [if_pos hi, p4 i (fun h => hk (hbK i h)), q5, if_neg hk] at this
    exact this
  refine ⟨n1, n2.trans (p2.trans q4), g1, g2, g3, fun i o hi hg hl => ?_⟩
  by_cases c1 : i < s.n
  · by_cases c2 : i ∈ K
    · by_cases c3 : i ∈ bt
      · obtain ⟨p, hp⟩ := List.mem_iff_getElem?.1 c3
        have hlt := (List.getElem?_eq_some_iff.1 hp).1
        have hb := List.getElem?_eq_getElem (show p < bo.length by omega)
        have := g1 p i _ hp hb
        rw [hg] at this
        cases this
        exact .inr (.inl ⟨p, hp, hb⟩)
      · exfalso
        have := n3 i (by omega)
        rw [if_pos c1, p4 i c3, q5, if_pos c2] at this
        rw [show (afterS s K bt bo no).get i = _ from this] at hg
        cases hg
        exact hl
    · rw [g3 i c1 c2] at hg
      exact .inl ⟨c1, c2, hg⟩
  · obtain ⟨p, rfl⟩ : ∃ p, i = s.n + p := ⟨i - s.n, by omega⟩
    have hb := List.getElem?_eq_getElem (show p < no.length by omega)
    have := g2 p _ hb
    rw [hg] at this
    cases this
    exact .inr (.inr ⟨p, rfl, hb⟩)
theorem afterM_old {i : Nat} {nb : List (Nat × Nat)} (h : i < s.n) : (afterM s M nb).blk i = M.blk i ∧ (afterM s M nb).cap i = M.cap i := by
  unfold afterM
  simp only [if_pos h, and_self]
theorem afterM_new {p : Nat} {nb : List (Nat × Nat)} : (afterM s M nb).blk (s.n + p) = blkL nb p ∧ (afterM s M nb).cap (s.n + p) = capL nb p := by
  unfold afterM
  simp only [if_neg (show ¬ s.n + p < s.n by omega), show s.n + p - s.n = p by omega, and_self]
theorem after_ext (hs : Sim G B0 w0 w s M) {W' : World} {K bt : List Nat} {bo no : List AObj} {nb : List (Nat × Nat)} (hK : ∀ tk, tk ∈ K → tk < s.n ∧ ∃ ob, s.get tk = some ob ∧ ob.live) (hbt : bt.length = bo.length) (hbK : ∀ i, i ∈ bt → i ∈ K) (hbn : bt.Nodup) (hroom : s.n + no.length ≤ Tr.lid)
    (hsize : w.heap.size ≤ W'.heap.size) (hblocks : ∀ b, b < w.heap.size → (∀ tk, tk ∈ K → M.blk tk ≠ b) → W'.heap[b]? = w.heap[b]?) (hcells : ∀ b off v, w.cell? ⟨b, off, none⟩ = some v → Imm s M b off → W'.cell? ⟨b, off, none⟩ = some v)
    (hrow : ∀ (p : Nat) (o : AObj), bo[p]? = some o → ∀ tip e, o ≠ .row tip e) (hnl : no.length = nb.length) (hnb : ∀ x, x ∈ nb → w.heap.size ≤ x.1 ∨ ∃ tk, tk ∈ K ∧ M.blk tk = x.1)
    (himm : ∀ b off v, w.cell? ⟨b, off, none⟩ = some v → Imm s M b off → (∀ (p : Nat) (o : AObj), no[p]? = some o → blkL nb p = b → below0 M.env o off) ∧ ∀ (p i : Nat) (o : AObj), bt[p]? = some i → bo[p]? = some o → M.blk i = b → below0 M.env o off) :
    Ext w s M W' (afterS s K bt bo no) (afterM s M nb) := by
  obtain ⟨g1, g2, g3, g4, g5, g6⟩ := after_get hs hK hbt hbK hbn hroom
  refine ⟨fun b off v hc hi => ⟨hcells b off v hc hi, imm0_iff.2 fun i o hin hg hbk => ?_, hi.2⟩, by rw [g1]; omega, fun i hi => afterM_old hi, fun i tip e hi hg => ?_, ⟨hsize, fun b hb hno => hblocks b hb fun tk ht e => ?_, fun i o hi hg hl hlt => ?_⟩, rfl, rfl, g2⟩
  · obtain ⟨m1, m2⟩ := himm b off v hc hi
    rw [g1] at hin
    by_cases hlv : o.live
    · rcases g6 i o hin hg hlv with ⟨a1, a2, a3⟩ | ⟨p, a1, a2⟩ | ⟨p, rfl, a2⟩
      · rw [(afterM_old a1).1] at hbk
        exact imm0_iff.1 hi.1 i o a1 a3 hbk
      · rw [(afterM_old (hK i (hbK i (List.mem_of_getElem? a1))).1).1] at hbk
        exact m2 p i o a1 a2 hbk
      · rw [afterM_new.1] at hbk
        exact m1 p o a2 hbk
    · cases o with
      | dead => trivial
      | _ => exact absurd trivial hlv
  · have hlv : (AObj.row tip e).live := trivial
    rcases g6 i _ (by omega) hg hlv with ⟨a1, a2, a3⟩ | ⟨p, a1, a2⟩ | ⟨p, rfl, a2⟩
    · exact a3
    · exact absurd rfl (hrow p _ a2 tip e)
    · omega
  · obtain ⟨h1, ob, h2, h3⟩ := hK tk ht
    exact hno tk ob h1 h2 h3 e
  · rw [g1] at hi
    rcases g6 i o hi hg hl with ⟨a1, a2, a3⟩ | ⟨p, a1, a2⟩ | ⟨p, rfl, a2⟩
    · exact ⟨i, o, a1, a3, hl, (afterM_old a1).1.symm⟩
    · obtain ⟨h1, ob, h2, h3⟩ := hK i (hbK i (List.mem_of_getElem? a1))
      exact ⟨i, ob, h1, h2, h3, (afterM_old h1).1.symm⟩
    · rw [afterM_new.1] at hlt ⊢
      have hp := (List.getElem?_eq_some_iff.1 a2).1
      obtain ⟨x, hx⟩ : ∃ x, nb[p]? = some x := ⟨_, List.getElem?_eq_getElem (by omega)⟩
      rw [(bs_get hx).1] at hlt ⊢
      rcases hnb x (List.mem_of_getElem? hx) with h | ⟨tk, h1, h2⟩
      · omega
      · obtain ⟨h3, ob, h4, h5⟩ := hK tk h1
        exact ⟨tk, ob, h3, h4, h5, h2⟩
theorem after_sim (hs : Sim G B0 w0 w s M) {W' : World} {K bt : List Nat} {bo no : List AObj} {nb : List (Nat × Nat)} (hK : ∀ tk, tk ∈ K → tk < s.n ∧ ∃ ob, s.get tk = some ob ∧ ob.live) (hbt : bt.length = bo.length) (hbK : ∀ i, i ∈ bt → i ∈ K) (hbn : bt.Nodup) (hroom : s.n + no.length ≤ Tr.lid)
    (hE : Ext w s M W' (afterS s K bt bo no) (afterM s M nb)) (hbel : Below 0 w W') (hblocks : ∀ b, b < w.heap.size → (∀ tk, tk ∈ K → M.blk tk ≠ b) → W'.heap[b]? = w.heap[b]?)
    (hnl : no.length = nb.length) (hnb : ∀ x, x ∈ nb → w.heap.size ≤ x.1 ∨ ∃ tk, tk ∈ K ∧ M.blk tk = x.1)
    (hnd : (nb.map (·.1)).Nodup) (hnb2 : ∀ x, x ∈ nb → ∀ i, i ∈ bt → M.blk i ≠ x.1)
    (hO : ∀ (p i : Nat) (o : AObj), bt[p]? = some i → bo[p]? = some o → ObjR W' (afterS s K bt bo no) (afterM s M nb) (M.blk i) (M.cap i) o)
    (hN : ∀ (p : Nat) (o : AObj) (x : Nat × Nat), no[p]? = some o → nb[p]? = some x → ObjR W' (afterS s K bt bo no) (afterM s M nb) x.1 x.2 o) (hlive : ∀ (p : Nat) (o : AObj), no[p]? = some o → o.live) : Sim G B0 w0 W' (afterS s K bt bo no) (afterM s M nb) := by
  obtain ⟨g1, g2, g3, g4, g5, g6⟩ := after_get hs hK hbt hbK hbn hroom
  have hB : B0 ≤ w.heap.size := Nat.le_trans hs.size hs.below.size
  have hbB : Below B0 w W' := ⟨hbel.os, hbel.tape, hbel.output, hbel.size, fun k hk => hblocks k (by omega) fun tk ht e => by
    have := (hs.blk tk (hK tk ht).1).1
    omega⟩
  have hnbB : ∀ (p : Nat) (x : Nat × Nat), nb[p]? = some x → B0 ≤ x.1 := fun p x hx => by
    rcases hnb x (List.mem_of_getElem? hx) with h | ⟨tk, h1, h2⟩
    · omega
    · rw [← h2]; exact (hs.blk tk (hK tk h1).1).1
  have hget : ∀ p, p < no.length → ∃ x o, nb[p]? = some x ∧ no[p]? = some o := fun p hp => ⟨_, _, List.getElem?_eq_getElem (by omega), List.getElem?_eq_getElem hp⟩
  -- a new block is no old one's, but of what was lent
  have hfar : ∀ (p : Nat) (x : Nat × Nat) (i : Nat) (o : AObj), nb[p]? = some x → i < s.n → i ∉ K → s.get i = some o → o.live → M.blk i ≠ x.1 := fun p x i o hx hi hk hg hl e => by
    rcases hnb x (List.mem_of_getElem? hx) with h | ⟨tk, h1, h2⟩
    · have := (hs.blk i hi).2; omega
    · obtain ⟨h3, ob, h4, h5⟩ := hK tk h1
      have := hs.inj i tk o ob hi h3 hg h4 hl h5 (by rw [e, h2])
      subst this
      exact hk h1
  refine ⟨hs.below.trans hbB, hs.size, by rw [g1]; exact hroom, fun i hi => ?_, fun i j oi oj hi hj gi gj li lj e => ?_, fun i o hi hg => ?_, fun g cs hg => (hs.glob g cs hg).ext hE, fun e he => hs.fx e (by rw [g2] at he; exact he), fun b off ho => ⟨Nat.lt_of_lt_of_le (hs.out b off ho).1 hbB.size, fun i hi => ?_⟩⟩
  · rw [g1] at hi
    by_cases c : i < s.n
    · rw [(afterM_old c).1]
      exact ⟨(hs.blk i c).1, Nat.lt_of_lt_of_le (hs.blk i c).2 hbel.size⟩
    · obtain ⟨p, rfl⟩ : ∃ p, i = s.n + p := ⟨i - s.n, by omega⟩
      obtain ⟨x, o, hx, ho⟩ := hget p (by omega)
      rw [afterM_new.1, (bs_get hx).1]
      exact ⟨hnbB p x hx, objR_lt (hN p o x ho hx) (hlive p o ho)⟩
  · rw [g1] at hi hj
    have hback : ∀ (p i : Nat), bt[p]? = some i → i < s.n ∧ ∃ ob, s.get i = some ob ∧ ob.live := fun p i h => hK i (hbK i (List.mem_of_getElem? h))
    rcases g6 i oi hi gi li with ⟨a1, a2, a3⟩ | ⟨p, a1, a2⟩ | ⟨p, rfl, a2⟩ <;> rcases g6 j oj hj gj lj with ⟨b1, b2, b3⟩ | ⟨p', b1, b2⟩ | ⟨p', rfl, b2⟩
    · rw [(afterM_old a1).1, (afterM_old b1).1] at e
      exact hs.inj i j oi oj a1 b1 a3 b3 li lj e
    · obtain ⟨h1, ob, h2, h3⟩ := hback p' j b1
      rw [(afterM_old a1).1, (afterM_old h1).1] at e
      exact hs.inj i j oi ob a1 h1 a3 h2 li h3 e
    · obtain ⟨x, o, hx, ho⟩ := hget p' (List.getElem?_eq_some_iff.1 b2).1
      rw [(afterM_old a1).1, afterM_new.1, (bs_get hx).1] at e
      exact absurd e (hfar p' x i oi hx a1 a2 a3 li)
    · obtain ⟨h1, ob, h2, h3⟩ := hback p i a1
      rw [(afterM_old h1).1, (afterM_old b1).1] at e
      exact hs.inj i j ob oj h1 b1 h2 b3 h3 lj e
    · obtain ⟨h1, ob, h2, h3⟩ := hback p i a1
      obtain ⟨h1', ob', h2', h3'⟩ := hback p' j b1
      rw [(afterM_old h1).1, (afterM_old h1').1] at e
      exact hs.inj i j ob ob' h1 h1' h2 h2' h3 h3' e
    · obtain ⟨h1, ob, h2, h3⟩ := hback p i a1
      obtain ⟨x, o, hx, ho⟩ := hget p' (List.getElem?_eq_some_iff.1 b2).1
      rw [(afterM_old h1).1, afterM_new.1, (bs_get hx).1] at e
      exact absurd e (hnb2 x (List.mem_of_getElem? hx) i (List.mem_of_getElem? a1))
    · obtain ⟨x, o, hx, ho⟩ := hget p (List.getElem?_eq_some_iff.1 a2).1
      rw [(afterM_old b1).1, afterM_new.1, (bs_get hx).1] at e
      exact absurd e.symm (hfar p x j oj hx b1 b2 b3 lj)
    · obtain ⟨h1, ob, h2, h3⟩ := hback p' j b1
      obtain ⟨x, o, hx, ho⟩ := hget p (List.getElem?_eq_some_iff.1 a2).1
      rw [(afterM_old h1).1, afterM_new.1, (bs_get hx).1] at e
      exact absurd e.symm (hnb2 x (List.mem_of_getElem? hx) j (List.mem_of_getElem? b1))
    · have hp := (List.getElem?_eq_some_iff.1 a2).1
      have hp' := (List.getElem?_eq_some_iff.1 b2).1
      rw [afterM_new.1, afterM_new.1] at e
      have := nodup_fst hnd (by omega) (by omega) e
      omega
  · rw [g1] at hi
    by_cases hlv : o.live
    · rcases g6 i o hi hg hlv with ⟨a1, a2, a3⟩ | ⟨p, a1, a2⟩ | ⟨p, rfl, a2⟩
      · rw [(afterM_old a1).1, (afterM_old a1).2]
        refine objR_same hE (hblocks _ (hs.blk i a1).2 fun tk ht e => ?_) (hs.obj i o a1 a3)
        obtain ⟨h3, ob, h4, h5⟩ := hK tk ht
        have := hs.inj tk i ob o h3 a1 h4 a3 h5 hlv e
        subst this
        exact a2 ht
      · have h1 := (hK i (hbK i (List.mem_of_getElem? a1))).1
        rw [(afterM_old h1).1, (afterM_old h1).2]
        exact hO p i o a1 a2
      · obtain ⟨x, o', hx, ho⟩ := hget p (List.getElem?_eq_some_iff.1 a2).1
        rw [afterM_new.1, afterM_new.2, (bs_get hx).1, (bs_get hx).2]
        exact hN p o x a2 hx
    · cases o with
      | dead => trivial
      | _ => exact absurd trivial hlv
  · rw [g1] at hi
    by_cases c : i < s.n
    · rw [(afterM_old c).1]; exact (hs.out b off ho).2 i c
    · obtain ⟨p, rfl⟩ : ∃ p, i = s.n + p := ⟨i - s.n, by omega⟩
      obtain ⟨x, o, hx, ho'⟩ := hget p (by omega)
      rw [afterM_new.1, (bs_get hx).1]
      rcases hnb x (List.mem_of_getElem? hx) with h | ⟨tk, h1, h2⟩
      · have h1 := (hs.out b off ho).1
        have h2 := hs.below.size
        omega
      · rw [← h2]; exact (hs.out b off ho).2 tk (hK tk h1).1
theorem nodupN_nodup : ∀ {l : List Nat}, nodupN l = true → l.Nodup
  | [], _ => by simp
  | a :: r, h => by
    unfold nodupN at h
    rw [Bool.and_eq_true, Bool.not_eq_true'] at h
    rw [List.nodup_cons]
    refine ⟨fun hm => ?_, nodupN_nodup h.2⟩
    rw [memN_iff.2 hm] at h
    cases h.1
theorem resAM_VR {k : Kn} {ve : Nat → E} {tk : Nat → Nat} {hs : List Ent} {v : Value} {rs : List Value} (hr : resV hs v rs) (hv : VRl w s M (valsE k ve tk 0 0 hs) rs) : VR w s M (resAM k ve tk hs) v := by
  rcases hs with _ | ⟨a, _ | ⟨b, r⟩⟩
  · obtain rfl : v = .tuple rs.toArray := hr
    unfold resAM VR
    exact ⟨_, rfl, by simpa using hv⟩
  · obtain rfl : rs = [v] := hr
    have hl := hv.length
    show VR w s M ((valsE k ve tk 0 0 [a]).head?.getD und) v
    cases hx : valsE k ve tk 0 0 [a] with
    | nil => rw [hx] at hl; cases hl
    | cons x t =>
      rw [hx] at hv
      unfold VRl at hv
      obtain ⟨v', t', e, h1, _⟩ := hv
      cases e
      exact h1
  · obtain rfl : v = .tuple rs.toArray := hr
    unfold resAM VR
    exact ⟨_, rfl, by simpa using hv⟩
theorem VRl.left : ∀ {a b : List AV} {us vs : List Value}, a.length = us.length → VRl w s M (a ++ b) (us ++ vs) → VRl w s M a us
  | [], _, [], _, _, _ => VRl_nil
  | x :: a, b, u :: us, vs, hl, h => by
    rw [List.cons_append, List.cons_append] at h
    unfold VRl at h ⊢
    obtain ⟨v, t, e, h1, h2⟩ := h
    cases e
    exact ⟨u, us, rfl, h1, VRl.left (by simpa using hl) h2⟩
  | [], _, _ :: _, _, hl, _ => by cases hl
  | _ :: _, _, [], _, hl, _ => by cases hl
theorem ctrOrcM_ok {L : List (Nat × List Value)} {q : SigM} {pre : List D → Prop} {need : List E → List E} (hn : (L.map (·.1)).Nodup) (hsc : (L.all fun x => x.2.all scalar) = true) (h : FnOkM P L tb q pre)
    (hpre : ∀ (env : Nat → D) (es : List E), (∀ e ∈ need es, e.den env = .v (.bool true)) → pre (E.denL env es))
    (hgo : q.pan.isSome = true → ∀ ds, ∃ b : Bool, Interp.phi (3000 + q.g) ds = D.ofBool b ∧ (b = true ↔ Interp.phi q.g ds ≠ .nil)) : CallOk P (tabsG L) B0 w0 (ctrOrcM tb q need) := by
  intro fr args s r s' ho w M vs hs hv
  unfold ctrOrcM at ho
  split at ho
  · rename_i f
    split at ho
    · rename_i hf
      rw [Bool.and_eq_true, decide_eq_true_eq] at hf
      obtain ⟨hf, htb⟩ := hf
      obtain rfl := nbe hf
      simp only at ho
      split at ho
      · rename_i hc
        simp only [Bool.and_eq_true] at hc
        obtain ⟨⟨⟨⟨⟨c1, c2⟩, c3⟩, c4⟩, c5⟩, c6⟩ := hc
        have c6 := Nat.le_of_ble_eq_true c6
        have c5 := nbe c5
        have c3 := allLt_iff c3
        split at ho
        · rename_i es hes
          split at ho
          · rename_i hneed
            have hsh : s.k.shape = ({ tb := tb } : Kn).shape := by funext t; unfold Kn.shape; rw [htb]
            obtain ⟨k1, k2, k3⟩ := arrM hs (sK := s) rfl (fun _ _ h => h) (fun b cs k _ _ hf => by cases hf) hes hv
            generalize hK : keptL q.args args = K at ho c1 c3 k1 k2 k3
            have hp : pre (E.denL M.env es) := hpre _ _ fun e he => fact_of hs ((List.all_eq_true.1 hneed) e he)
            have hdis : ∀ b off v, w.cell? ⟨b, off, none⟩ = some v → Imm s M b off → ImmD ({ tb := tb } : Kn).shape q.args (E.denL M.env es) (K.map fun tk => (M.blk tk, M.cap tk)) b off := fun b off v _ hi => by
              rw [← hsh]
              exact k3 b off fun tk ob ht hg hbk => imm0_iff.1 hi.1 tk ob (k2 tk ht).1 hg hbk
            have hnd := nodup_blk hs c1 k2
            have hmem : ∀ b, b ∈ (K.map fun tk => (M.blk tk, M.cap tk)).map (·.1) ↔ ∃ tk, tk ∈ K ∧ M.blk tk = b := fun b => by
              rw [List.map_map, List.mem_map]; rfl
            refine (h w (Imm s M) vs (E.denL M.env es) _ (tabs_of_sim hn hsc hs) (fun g us hm off ho => ?_) (by rw [← hsh]; exact k1) hnd hdis hp).mono ?_
            · have hg := hs.glob g _ (tabsG_first hm hn)
              obtain ⟨_, _, _, _, h4⟩ := VRs.get hg off (.v us[off]) (by simp [leaves, ho])
              simpa using h4
            · rintro e W' hpost
              have hblocks : ∀ b, b < w.heap.size → (∀ tk, tk ∈ K → M.blk tk ≠ b) → W'.heap[b]? = w.heap[b]? := fun b hb hno => hpost.blocks b hb fun hm => by
                obtain ⟨tk, h1, h2⟩ := (hmem b).1 hm
                exact hno tk h1 h2
              have hcells : ∀ b off v, w.cell? ⟨b, off, none⟩ = some v → Imm s M b off → W'.cell? ⟨b, off, none⟩ = some v := fun b off v hc hi => hpost.cells b off v hc hi
              rcases hpost.ends with ⟨rs, v, vb, ds', bs', e1, rfl, e3, e4, e5, e6, e7, e8, e9⟩ | ⟨y, a, e1, rfl, e3, e4⟩
              · -- it returns
                have hphi : Interp.phi q.g (E.denL M.env es) = .row ds' := e1
                have hret : s' = afterS s K (q.cur.map fun o => K.getD o 0) (objsE s.k (fun j => E.pr (.cell j) [.app q.g es]) (varN q.res) q.backE) (objsE s.k (fun j => E.pr (.cell j) [.app q.g es]) 0 q.res) ∧
                    r = resAM s.k (fun j => E.pr (.cell j) [.app q.g es]) (fun o => s.n + o) q.res := by
                  split at ho
                  · cases ho; exact ⟨rfl, rfl⟩
                  · rename_i hask
                    exfalso
                    split at hask
                    · rename_i hpan
                      obtain ⟨b, hb1, hb2⟩ := hgo hpan (E.denL M.env es)
                      have := ask_sound hs (e := .app (3000 + q.g) es) (by simp only [E.den]; exact hb1) hask
                      subst this
                      have : Interp.phi q.g (E.denL M.env es) ≠ .nil := by rw [hphi]; intro h; cases h
                      exact absurd (hb2.2 this) (by decide)
                    · cases hask
                  · cases ho
                obtain ⟨rfl, rfl⟩ := hret
                generalize hve : (fun j => E.pr (.cell j) [.app q.g es] : Nat → E) = ve
                have hved : ∀ (i : Nat) (d : D), ds'[i]? = some d → (ve i).den M.env = d := fun i d hd => by
                  rw [← hve]
                  simp only [E.den, E.denL, Prim.den, hphi, D.cells]
                  rw [List.getD_eq_getElem?_getD, hd]; rfl
                rw [← hsh] at e5 e7
                have hlen := argsM_len (k2 := s.k) (ve := ve) (i := 0) e5
                have happ : objsE s.k ve 0 q.outs = objsE s.k ve 0 q.res ++ objsE s.k ve (varN q.res) q.backE := by
                  unfold SigM.outs; rw [objsE_append, Nat.zero_add]
                have hol : (objsE s.k ve 0 q.res).length = objN q.res := objsE_len
                have hbl : (objsE s.k ve (varN q.res) q.backE).length = q.cur.length := by rw [objsE_len, objN_back c4, c5]
                have hbsl : bs'.length = objN q.res + q.cur.length := by rw [← hlen.1, happ, List.length_append, hol, hbl]
                -- the blocks of what is new, and of what comes back
                have hnb : ∀ (p : Nat), p < objN q.res → (bs'.take (objN q.res))[p]? = bs'[p]? := fun p hp => by rw [List.getElem?_take, if_pos hp]
                have hback : ∀ (p : Nat), bs'[objN q.res + p]? = (q.cur.map fun o => (K.map fun tk => (M.blk tk, M.cap tk)).getD o (0, 0))[p]? := fun p => by
                  rw [← e9, List.getElem?_drop]
                have hcurK : ∀ (p o : Nat), q.cur[p]? = some o → ∃ tk, K[o]? = some tk ∧ tk ∈ K ∧ (q.cur.map fun o => K.getD o 0)[p]? = some tk ∧ bs'[objN q.res + p]? = some (M.blk tk, M.cap tk) := fun p o hp => by
                  have ho := c3 o (List.mem_of_getElem? hp)
                  have hk := List.getElem?_eq_getElem ho
                  refine ⟨_, hk, List.mem_of_getElem? hk, ?_, ?_⟩
                  · rw [List.getElem?_map, hp]
                    simp only [Option.map_some, List.getD_eq_getElem?_getD, hk, Option.getD_some]
                  · rw [hback, List.getElem?_map, hp]
                    simp only [Option.map_some, List.getD_eq_getElem?_getD, List.getElem?_map, hk, Option.getD_some]
                have hbtg : ∀ (p i : Nat), (q.cur.map fun o => K.getD o 0)[p]? = some i → i ∈ K ∧ bs'[objN q.res + p]? = some (M.blk i, M.cap i) := fun p i hp => by
                  have hlt := (List.getElem?_eq_some_iff.1 hp).1
                  rw [List.length_map] at hlt
                  obtain ⟨tk, h1, h2, h3, h4⟩ := hcurK p _ (List.getElem?_eq_getElem hlt)
                  rw [hp] at h3
                  cases h3
                  exact ⟨h2, h4⟩
                have hbK : ∀ i, i ∈ (q.cur.map fun o => K.getD o 0) → i ∈ K := fun i hi => by
                  obtain ⟨p, hp⟩ := List.mem_iff_getElem?.1 hi
                  exact (hbtg p i hp).1
                have hbn : (q.cur.map fun o => K.getD o 0).Nodup := by
                  unfold List.Nodup
                  rw [List.pairwise_iff_getElem]
                  intro i j hi hj hij e
                  rw [List.length_map] at hi hj
                  rw [List.getElem_map, List.getElem_map] at e
                  have c2' := List.pairwise_iff_getElem.1 (nodupN_nodup c2) i j hi hj hij
                  have o1 := c3 _ (List.getElem_mem hi)
                  have o2 := c3 _ (List.getElem_mem hj)
                  rw [List.getD_eq_getElem?_getD, List.getD_eq_getElem?_getD, List.getElem?_eq_getElem o1, List.getElem?_eq_getElem o2] at e
                  have e : K[q.cur[i]] = K[q.cur[j]] := e
                  exact c2' (nodupN_get c1 _ _ _ (List.getElem?_eq_getElem o1) (by rw [e]; exact List.getElem?_eq_getElem o2))
                have hbt : (q.cur.map fun o => K.getD o 0).length = (objsE s.k ve (varN q.res) q.backE).length := by rw [List.length_map, hbl]
                have hroom : s.n + (objsE s.k ve 0 q.res).length ≤ Tr.lid := by rw [hol]; exact c6
                have hnl : (objsE s.k ve 0 q.res).length = (bs'.take (objN q.res)).length := by rw [hol, List.length_take, hbsl]; omega
                have hnbm : ∀ x, x ∈ bs'.take (objN q.res) → w.heap.size ≤ x.1 ∨ ∃ tk, tk ∈ K ∧ M.blk tk = x.1 := fun x hx => by
                  rcases e8 x.1 (List.mem_map_of_mem (List.mem_of_mem_take hx)) with h | h
                  · exact .inl h
                  · exact .inr ((hmem _).1 h)
                have hno : ∀ (p : Nat) (o : AObj), (objsE s.k ve 0 q.res)[p]? = some o → (objsE s.k ve 0 q.outs)[p]? = some o := fun p o hp => by
                  rw [happ, List.getElem?_append_left (List.getElem?_eq_some_iff.1 hp).1]; exact hp
                have hbo : ∀ (p : Nat) (o : AObj), (objsE s.k ve (varN q.res) q.backE)[p]? = some o → (objsE s.k ve 0 q.outs)[objN q.res + p]? = some o := fun p o hp => by
                  rw [happ, List.getElem?_append_right (by rw [hol]; omega), hol, Nat.add_sub_cancel_left]; exact hp
                have hblkN : ∀ p, p < objN q.res → blkL (bs'.take (objN q.res)) p = blkL bs' p := fun p hp => by
                  unfold blkL
                  rw [List.getD_eq_getElem?_getD, List.getD_eq_getElem?_getD, hnb p hp]
                have himmO : ∀ b off, ImmD s.k.shape q.outs ds' bs' b off → (∀ (p : Nat) (o : AObj), (objsE s.k ve 0 q.res)[p]? = some o → blkL (bs'.take (objN q.res)) p = b → below0 M.env o off) ∧ ∀ (p i : Nat) (o : AObj), (q.cur.map fun o => K.getD o 0)[p]? = some i → (objsE s.k ve (varN q.res) q.backE)[p]? = some o → M.blk i = b → below0 M.env o off := fun b off hm => by
                  refine ⟨fun p o hp e => ?_, fun p i o hp ho e => ?_⟩
                  · have hlt := (List.getElem?_eq_some_iff.1 hp).1
                    rw [hol] at hlt
                    exact argsM_below (k2 := s.k) (ds0 := ds') (bs0 := bs') (i := 0) (o := 0) hved e5 (by simp) (by simp) hm p o (hno p o hp) (by rw [Nat.zero_add, ← hblkN p hlt]; exact e)
                  · exact argsM_below (k2 := s.k) (ds0 := ds') (bs0 := bs') (i := 0) (o := 0) hved e5 (by simp) (by simp) hm (objN q.res + p) o (hbo p o ho) (by rw [Nat.zero_add, (bs_get (hbtg p i hp).2).1]; exact e)
                have hE : Ext w s M W' (afterS s K (q.cur.map fun o => K.getD o 0) (objsE s.k ve (varN q.res) q.backE) (objsE s.k ve 0 q.res)) (afterM s M (bs'.take (objN q.res))) :=
                  after_ext hs k2 hbt hbK hbn hroom hpost.below.size hblocks hcells (fun p o hp => objsE_back c4 hp) hnl hnbm fun b off v hc hi => himmO b off (e7 b off v hc hi)
                obtain ⟨g1, g2, g3, g4, g5, g6⟩ := after_get (bo := objsE s.k ve (varN q.res) q.backE) (no := objsE s.k ve 0 q.res) hs k2 hbt hbK hbn hroom
                have himm : ∀ b off v, W'.cell? ⟨b, off, none⟩ = some v → (Imm s M b off ∨ w.heap.size ≤ b ∨ b ∈ (K.map fun tk => (M.blk tk, M.cap tk)).map (·.1)) ∧ ImmD s.k.shape q.outs ds' bs' b off → Imm (afterS s K (q.cur.map fun o => K.getD o 0) (objsE s.k ve (varN q.res) q.backE) (objsE s.k ve 0 q.res)) (afterM s M (bs'.take (objN q.res))) b off := fun b off v _ hi => by
                  obtain ⟨m1, m2⟩ := himmO b off hi.2
                  refine ⟨imm0_iff.2 fun i o hin hg hbk => ?_, ?_⟩
                  · rw [g1] at hin
                    by_cases hlv : o.live
                    · rcases g6 i o hin hg hlv with ⟨a1, a2, a3⟩ | ⟨p, a1, a2⟩ | ⟨p, rfl, a2⟩
                      · rw [(afterM_old a1).1] at hbk
                        rcases hi.1 with h | h | h
                        · exact imm0_iff.1 h.1 i o a1 a3 hbk
                        · have := (hs.blk i a1).2; omega
                        · obtain ⟨tk, h1, h2⟩ := (hmem b).1 h
                          obtain ⟨h3, ob, h4, h5⟩ := k2 tk h1
                          have := hs.inj tk i ob o h3 a1 h4 a3 h5 hlv (by rw [h2, hbk])
                          subst this
                          exact absurd h1 a2
                      · rw [(afterM_old (k2 i (hbK i (List.mem_of_getElem? a1))).1).1] at hbk
                        exact m2 p i o a1 a2 hbk
                      · rw [afterM_new.1] at hbk
                        exact m1 p o a2 hbk
                    · cases o with
                      | dead => trivial
                      | _ => exact absurd trivial hlv
                  · show ¬ M.out b off
                    rcases hi.1 with h | h | h
                    · exact h.2
                    · exact out_new hs h
                    · obtain ⟨tk, h1, h2⟩ := (hmem b).1 h
                      rw [← h2]; exact out_own hs (k2 tk h1).1
                have hkS : (afterS s K (q.cur.map fun o => K.getD o 0) (objsE s.k ve (varN q.res) q.backE) (objsE s.k ve 0 q.res)).k.shape = s.k.shape := by rw [g2]
                have hobj := argsM_objs (w := W') (k2 := s.k) (s2 := afterS s K (q.cur.map fun o => K.getD o 0) (objsE s.k ve (varN q.res) q.backE) (objsE s.k ve 0 q.res)) (M2 := afterM s M (bs'.take (objN q.res))) (ds0 := ds') (bs0 := bs') (i := 0) (o := 0) (ve := ve) hved hkS himm e5 (by simp) (by simp)
                have hsim : Sim (tabsG L) B0 w0 W' (afterS s K (q.cur.map fun o => K.getD o 0) (objsE s.k ve (varN q.res) q.backE) (objsE s.k ve 0 q.res)) (afterM s M (bs'.take (objN q.res))) :=
                  after_sim hs k2 hbt hbK hbn hroom hE hpost.below hblocks hnl hnbm (by
                      rw [List.map_take]
                      exact List.Pairwise.sublist (List.take_sublist _ _) e6)
                    (fun x hx i hi e => by
                      obtain ⟨p, hp⟩ := List.mem_iff_getElem?.1 hx
                      obtain ⟨p', hp'⟩ := List.mem_iff_getElem?.1 hi
                      have hlt := (List.getElem?_eq_some_iff.1 hp).1
                      rw [List.length_take, hbsl] at hlt
                      rw [hnb p (by omega)] at hp
                      have h2 := (hbtg p' i hp').2
                      have := nodup_fst e6 (List.getElem?_eq_some_iff.1 hp).1 (List.getElem?_eq_some_iff.1 h2).1 (by rw [(bs_get hp).1, (bs_get h2).1]; exact e.symm)
                      omega)
                    (fun p i o hp ho => by
                      obtain ⟨x, hx, hr⟩ := hobj _ o (hbo p o ho)
                      rw [Nat.zero_add, (hbtg p i hp).2] at hx
                      cases hx
                      exact hr)
                    (fun p o x hp hx => by
                      have hlt := (List.getElem?_eq_some_iff.1 hp).1
                      rw [hol] at hlt
                      obtain ⟨y, hy, hr⟩ := hobj p o (hno p o hp)
                      rw [hnb p hlt] at hx
                      rw [Nat.zero_add, hx] at hy
                      cases hy
                      exact hr)
                    fun p o hp => objsE_live hp
                refine ⟨afterM s M (bs'.take (objN q.res)), .inl ⟨v, rfl, resAM_VR e3 ?_⟩, hsim, hE⟩
                -- the values
                have hvals := argsM_vals (w := W') (k2 := s.k) (s2 := afterS s K (q.cur.map fun o => K.getD o 0) (objsE s.k ve (varN q.res) q.backE) (objsE s.k ve 0 q.res)) (M2 := afterM s M (bs'.take (objN q.res))) (ds0 := ds') (bs0 := bs') (i := 0) (o := 0) (ve := ve)
                  (tk := fun o => if o < objN q.res then s.n + o else (q.cur.map fun o => K.getD o 0).getD (o - objN q.res) 0) hved g2 (fun o x hx => by
                    have hlt := (List.getElem?_eq_some_iff.1 hx).1
                    by_cases c : o < objN q.res
                    · simp only [if_pos c]
                      rw [afterM_new.1, afterM_new.2]
                      rw [← hnb o c] at hx
                      exact ⟨(bs_get hx).1, (bs_get hx).2, by rw [g1, hol]; omega⟩
                    · simp only [if_neg c]
                      have hlt' : o - objN q.res < (q.cur.map fun o => K.getD o 0).length := by rw [List.length_map]; omega
                      have hg := List.getElem?_eq_getElem hlt'
                      rw [List.getD_eq_getElem?_getD, hg]
                      simp only [Option.getD_some]
                      obtain ⟨h1, h2⟩ := hbtg _ _ hg
                      rw [show objN q.res + (o - objN q.res) = o by omega, hx] at h2
                      cases h2
                      have h3 := (k2 _ h1).1
                      exact ⟨(afterM_old h3).1, (afterM_old h3).2, by rw [g1]; omega⟩) himm e5 (by simp) (by simp)
                unfold SigM.outs at hvals
                rw [valsE_append] at hvals
                have hlv : ∀ (es : List Ent) (i o : Nat), (valsE s.k ve (fun o => if o < objN q.res then s.n + o else (q.cur.map fun o => K.getD o 0).getD (o - objN q.res) 0) i o es).length = es.length := by
                  intro es
                  induction es with
                  | nil => intro i o; rfl
                  | cons e r ih => intro i o; cases e <;> simp only [valsE, List.length_cons, ih]
                have hleft := VRl.left (by rw [hlv, e4]) hvals
                have hcong : ∀ (es : List Ent) (i o : Nat), o + objN es ≤ objN q.res → valsE s.k ve (fun o => if o < objN q.res then s.n + o else (q.cur.map fun o => K.getD o 0).getD (o - objN q.res) 0) i o es = valsE s.k ve (fun o => s.n + o) i o es := by
                  intro es
                  induction es with
                  | nil => intro i o _; rfl
                  | cons e r ih =>
                    intro i o hle
                    cases e <;> simp only [objN, isObj] at hle <;> simp only [valsE] <;> simp at hle <;> first
                      | (rw [ih _ _ (by omega), if_pos (by omega)]; done)
                      | rw [ih _ _ (by omega)]
                rw [hcong _ _ _ (by omega)] at hleft
                exact hleft
              · -- it throws
                have hphi : Interp.phi q.g (E.denL M.env es) = .nil := e1
                have hret : s' = afterS s K [] [] [] ∧ r = .pan a := by
                  split at ho
                  · rename_i hask
                    exfalso
                    split at hask
                    · rename_i hpan
                      obtain ⟨b, hb1, hb2⟩ := hgo hpan (E.denL M.env es)
                      have := ask_sound hs (e := .app (3000 + q.g) es) (by simp only [E.den]; exact hb1) hask
                      subst this
                      exact (hb2.1 rfl) hphi
                    · rename_i hpan
                      rw [e3] at hpan
                      exact hpan rfl
                  · rw [e3] at ho
                    cases ho
                    exact ⟨rfl, rfl⟩
                  · cases ho
                obtain ⟨rfl, rfl⟩ := hret
                have hE : Ext w s M W' (afterS s K [] [] []) (afterM s M []) := after_ext hs k2 rfl (fun i hi => by cases hi) (by simp) (by have := hs.bound; simpa using this) hpost.below.size hblocks hcells (fun p o hp => by simp at hp) rfl (fun x hx => by cases hx) fun b off v hc hi => ⟨fun p o hp => by simp at hp, fun p i o hp => by simp at hp⟩
                exact ⟨afterM s M [], .inr ⟨a, y, rfl, rfl, conV_VR e4⟩, after_sim hs k2 rfl (fun i hi => by cases hi) (by simp) (by have := hs.bound; simpa using this) hE hpost.below hblocks rfl (fun x hx => by cases hx) (by simp) (fun x hx => by cases hx) (fun p i o hp => by simp at hp) (fun p o x hp => by simp at hp) (fun p o hp => by simp at hp), hE⟩
          · cases ho
        · cases ho
      · cases ho
    · cases ho
  · cases ho
end
end Go.Ab
