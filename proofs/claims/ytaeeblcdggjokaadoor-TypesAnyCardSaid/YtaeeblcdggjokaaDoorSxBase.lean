/- The evaluator's values and objects against the model's world: what they stand for, and that it stays. -/
import Derived.Test.YtaeeblcdggjokaaDoorSxDefs
import Derived.Below
import Derived.RangeFuncRecord
import Derived.RangeFuncLeaves
namespace Go.Ab
set_option linter.unusedVariables false
set_option linter.unusedSimpArgs false
set_option linter.unusedSectionVars false
set_option linter.constructorNameAsVariable false
open Go Go.RowKit

theorem nbf {a b : Nat} (h : a ≠ b) : Nat.beq a b = false := by
  cases hb : Nat.beq a b with
  | false => rfl
  | true => exact absurd (Nat.eq_of_beq_eq_true hb) h
theorem nbt (a : Nat) : Nat.beq a a = true := Nat.beq_refl a
theorem nbe {a b : Nat} (h : Nat.beq a b = true) : a = b := Nat.eq_of_beq_eq_true h

namespace Tr
variable {α : Type}
theorem get_eq (s : Tr α) (u : Nat) : s.get u = if u = 0 then s.val else if u % 2 = 1 then s.left.get (u / 2) else s.right.get (u / 2 - 1) := by
  cases s with
  | lf => simp [get, val, left, right]
  | nd l x r =>
    show (bif Nat.beq u 0 then x else bif Nat.beq (u % 2) 1 then l.get (u / 2) else r.get (u / 2 - 1)) = _
    by_cases h : u = 0
    · subst h; simp [val]
    · have e1 : Nat.beq u 0 = false := nbf h
      rw [e1, if_neg h]
      by_cases h2 : u % 2 = 1
      · rw [h2]; simp [left]
      · have e2 : Nat.beq (u % 2) 1 = false := nbf h2
        rw [e2, if_neg h2]; simp [right]
theorem get_setF : ∀ (f : Nat) (s : Tr α) (t u : Nat) (v : Option α), t + 1 < 2 ^ f → (setF f s t v).get u = if u = t then v else s.get u
  | 0, s, t, u, v, h => by simp at h
  | f + 1, s, t, u, v, h => by
    have hp : 2 ^ (f + 1) = 2 * 2 ^ f := by rw [Nat.pow_succ]; omega
    unfold setF
    by_cases h0 : t = 0
    · subst h0
      simp only [nbt, cond_true]
      rw [get_eq, get_eq s u]
      by_cases hu : u = 0 <;> simp [hu, val, left, right]
    · have e1 : Nat.beq t 0 = false := nbf h0
      rw [e1, cond_false]
      by_cases h2 : t % 2 = 1
      · rw [h2]
        simp only [nbt, cond_true]
        rw [get_eq, get_eq s u]
        rw [show ∀ (l r : Tr α) (x : Option α), (Tr.nd l x r).val = x from fun _ _ _ => rfl, show ∀ (l r : Tr α) (x : Option α), (Tr.nd l x r).left = l from fun _ _ _ => rfl, show ∀ (l r : Tr α) (x : Option α), (Tr.nd l x r).right = r from fun _ _ _ => rfl]
        by_cases hu : u = 0
        · rw [if_pos hu, if_pos hu, if_neg (by omega)]
        · rw [if_neg hu, if_neg hu]
          by_cases hu2 : u % 2 = 1
          · rw [if_pos hu2, if_pos hu2, get_setF f s.left (t / 2) (u / 2) v (by omega)]
            by_cases e : u = t
            · subst e; simp
            · rw [if_neg e, if_neg (by omega)]
          · rw [if_neg hu2, if_neg hu2, if_neg (by omega)]
      · have e2 : Nat.beq (t % 2) 1 = false := nbf h2
        rw [e2, cond_false, get_eq, get_eq s u]
        rw [show ∀ (l r : Tr α) (x : Option α), (Tr.nd l x r).val = x from fun _ _ _ => rfl, show ∀ (l r : Tr α) (x : Option α), (Tr.nd l x r).left = l from fun _ _ _ => rfl, show ∀ (l r : Tr α) (x : Option α), (Tr.nd l x r).right = r from fun _ _ _ => rfl]
        by_cases hu : u = 0
        · rw [if_pos hu, if_pos hu, if_neg (by omega)]
        · rw [if_neg hu, if_neg hu]
          by_cases hu2 : u % 2 = 1
          · rw [if_pos hu2, if_pos hu2, if_neg (by omega)]
          · rw [if_neg hu2, if_neg hu2, get_setF f s.right (t / 2 - 1) (u / 2 - 1) v (by omega)]
            by_cases e : u = t
            · subst e; simp
            · rw [if_neg e, if_neg (by omega)]
theorem get_set (s : Tr α) (t u : Nat) (v : Option α) (h : t < lid) : (s.set t v).get u = if u = t then v else s.get u :=
  get_setF 31 s t u v (by unfold lid at h; omega)
end Tr

structure Mp where
  blk : Nat → Nat
  cap : Nat → Nat
  env : Nat → D
  out : Nat → Nat → Prop
variable [Interp]

def Tip.val (env : Nat → D) : Tip → Nat
  | .c n => n
  | .e x w => (x.den env).rows.length * w
def Imm0 (s : St) (M : Mp) (b off : Nat) : Prop :=
  ∀ i o, i < s.n → s.get i = some o → M.blk i = b → match o with
    | .row tip _ => off < tip.val M.env
    | .dead => True
    | _ => False
/-- A cell that is written no more: neither by what is here, nor from outside. -/
def Imm (s : St) (M : Mp) (b off : Nat) : Prop := Imm0 s M b off ∧ ¬ M.out b off

def Free (fr : Nat × Nat) (n : Nat) : Prop := fr.1 = fr.2 ∨ n ≤ fr.1
theorem Free.no {fr : Nat × Nat} {n off : Nat} (h : Free fr n) (ho : off < n) : ¬(fr.1 ≤ off ∧ off < fr.2) := by
  rcases h with h | h <;> omega

def TokOk (s : St) (M : Mp) (tok : Option Nat) (b off cap : Nat) : Prop :=
  ∀ t, tok = some t → t < s.n ∧ ∀ tip e, s.get t = some (.row tip e) → b = M.blk t ∧ off = 0 ∧ cap = M.cap t

def TokD (s : St) (M : Mp) (tok : Option Nat) (y : Value) : Prop :=
  ∀ t, tok = some t → t < s.n ∧ ∀ tip e, s.get t = some (.row tip e) → ∃ l, y = .slice (some ⟨M.blk t, 0, none⟩) l (M.cap t)
/-- A table's rows; an array's. -/
def MDr (kt ct : Ty) : List D → List MapEntry → Prop
  | [], es => es = []
  | d :: r, es => ∃ e t, es = e :: t ∧ d = .row [.v e.key, .v e.val] ∧ tyV kt e.key = true ∧ tyV ct e.val = true ∧ MDr kt ct r t
def SRl (ct : Ty) : List D → List Value → Prop
  | [], vs => vs = []
  | d :: r, vs => ∃ v t, vs = v :: t ∧ d = .row [.v v] ∧ tyV ct v = true ∧ SRl ct r t
def SymR (env : Nat → D) (cap : Nat) : SK → Option Obj → Prop
  | .map kt ct e, ob => ∃ ents clock rows, ob = some (.map ents clock) ∧ e.den env = .lst rows ∧ MDr kt ct rows ents.toList
  | .arr ct e, ob => ∃ c t fr rows, ob = some (.cells c t fr) ∧ Free fr c.size ∧ e.den env = .lst rows ∧ rows.length ≤ c.size ∧ SRl ct rows (c.toList.take rows.length) ∧ (cap ≠ 0 → c.size = cap)
def renFn (s : St) (M : Mp) : Fn → Option Fn
  | .func f => some (.func f)
  | .yield l => if l < s.n then some (.yield (M.blk l)) else none
  | _ => none

section
variable (w : World) (s : St) (M : Mp)
mutual
def VR : AV → Value → Prop
  | .v x, y => y = x ∧ scalar x = true
  | .ref cs, y => ∃ b off, y = .pointer (some ⟨b, off, none⟩) ∧ VRs cs b off
  | .box i off, y => i < s.n ∧ y = .pointer (some ⟨M.blk i, off, none⟩)
  | .sl cs len tok, y => ∃ b off cap, y = .slice (some ⟨b, off, none⟩) len cap ∧ len ≤ cap ∧ VRs cs b off ∧ TokOk s M tok b off cap
  | .ms i off len, y => i < s.n ∧ ∃ cap, len ≤ cap ∧ y = .slice (some ⟨M.blk i, off, none⟩) len cap
  | .mg i len, y => i < s.n ∧ len ≤ M.cap i ∧ y = .slice (some ⟨M.blk i, 0, none⟩) len (M.cap i)
  | .e0, y => ∃ b off, y = .slice (some ⟨b, off, none⟩) 0 0
  | .mp i, y => i < s.n ∧ y = .map (some (M.blk i))
  | .fn f a b, y => ∃ f' a' b', y = .func f' a' b' ∧ renFn s M f = some f' ∧ VRl a a'.toList ∧ VRl b b'.toList
  | .agg cs, y => ∃ vs, y = .agg vs ∧ VRl cs vs.toList
  | .tup cs, y => ∃ vs, y = .tuple vs ∧ VRl cs vs.toList
  | .iface t x, y => ∃ v, y = .iface t v ∧ VR x v
  | .pan _, _ => False
  | .any, _ => True
  | .x t e, y => e.den M.env = .v y ∧ tyV t y = true
  | .d t e tok, y => DV (fun b off => w.cell? ⟨b, off, none⟩) (Imm s M) (e.den M.env) y ∧ fits s.k.shape (e.den M.env) (.sl t) ∧ TokD s M tok y
  | .rd t e o, y => ∃ b off cs, y = .pointer (some ⟨b, off + o, none⟩) ∧ e.den M.env = .row cs ∧ DVs (fun b off => w.cell? ⟨b, off, none⟩) (Imm s M) cs b off ∧ fitsC s.k.shape cs (s.k.shape t)
  | .so i off len wh, y => i < s.n ∧ ∃ n m cap : Nat, (off.den M.env).int = n ∧ (len.den M.env).int = m ∧ y = .slice (some ⟨M.blk i, n, none⟩) m cap ∧ m ≤ cap ∧ (wh = true → n = 0 ∧ cap = M.cap i)
  | .po i off, y => i < s.n ∧ ∃ n : Nat, (off.den M.env).int = n ∧ y = .pointer (some ⟨M.blk i, n, none⟩)
  | .sy x bits, y => y = x ∧ scalar x = true ∧ (∀ b, x ≠ .bool b) ∧ ∀ e ∈ bits, cmpV e.1 x e.2.1 = some e.2.2
def VRs : List AV → Nat → Nat → Prop
  | [], _, _ => True
  | c :: r, b, off => (∃ v, w.cell? ⟨b, off, none⟩ = some v ∧ VR c v) ∧ isCell c = true ∧ Imm s M b off ∧ VRs r b (off + 1)
def VRl : List AV → List Value → Prop
  | [], vs => vs = []
  | c :: r, vs => ∃ v t, vs = v :: t ∧ VR c v ∧ VRl r t
end

def MR : List (Value × AV) → List MapEntry → Prop
  | [], es => es = []
  | (k, x) :: r, es => ∃ e t, es = e :: t ∧ e.key = k ∧ VR w s M x e.val ∧ MR r t

def BoxK (k len size cap : Nat) (e : TypeId) : Prop := (k % tyBase ≠ 0 → size = cap * (k % tyBase)) ∧ (tyBase ≤ k → e = k / tyBase - 1 ∧ (k % tyBase = 0 → size = len))
def ObjR (b cap : Nat) : AObj → Prop
  | .box cs esz => ∃ c e fr, w.heap[b]? = some (.cells c e fr) ∧ VRl w s M cs (c.toList.take cs.length) ∧ cs.all isCell = true ∧ Free fr c.size ∧ BoxK esz cs.length c.size cap e
  | .fz cs esz => ∃ c e fr, w.heap[b]? = some (.cells c e fr) ∧ VRl w s M cs (c.toList.take cs.length) ∧ cs.all isCell = true ∧ BoxK esz cs.length c.size cap e
  | .row tip esz => ∃ c e fr, w.heap[b]? = some (.cells c e fr) ∧ c.size = cap * esz ∧ tip.val M.env ≤ c.size ∧ Free fr c.size
  | .map es => ∃ ents clock, w.heap[b]? = some (.map ents clock) ∧ MR w s M es ents.toList
  | .dead => True
  | .loop T ps asg body st pend => ∃ rc : Loop, w.heap[b]? = some (.loop rc) ∧ rc.state = st ∧ rc.pending = pend ∧ rc.params.toList = ps ∧ rc.assign = asg ∧ rc.body = body ∧ rc.tmps.size = T.n ∧ ∀ t, VR w s M (gt T t) (rc.tmps.getD t undef)
  | .defs => w.heap[b]? = some (.deferred (some []))
  | .sym k => SymR M.env cap k w.heap[b]?
end

def AObj.live : AObj → Prop
  | .dead => False
  | _ => True

variable (G : Nat → Option (List AV))

structure Sim (B0 : Nat) (w0 w : World) (s : St) (M : Mp) : Prop where
  below : Below B0 w0 w
  size : B0 ≤ w0.heap.size
  bound : s.n ≤ Tr.lid
  blk : ∀ i, i < s.n → B0 ≤ M.blk i ∧ M.blk i < w.heap.size
  inj : ∀ i j oi oj, i < s.n → j < s.n → s.get i = some oi → s.get j = some oj → oi.live → oj.live → M.blk i = M.blk j → i = j
  obj : ∀ i o, i < s.n → s.get i = some o → ObjR w s M (M.blk i) (M.cap i) o
  glob : ∀ g cs, G g = some cs → VRs w s M cs g 0
  fx : ∀ e, e ∈ s.k.fx → e.den M.env = .v (.bool true)
  out : ∀ b off, M.out b off → b < w.heap.size ∧ ∀ i, i < s.n → M.blk i ≠ b

/-- What is not written: all but the blocks of objects. -/
structure Frm (w : World) (s : St) (M : Mp) (w' : World) (s' : St) (M' : Mp) : Prop where
  size : w.heap.size ≤ w'.heap.size
  blocks : ∀ b, b < w.heap.size → (∀ i o, i < s.n → s.get i = some o → o.live → M.blk i ≠ b) → w'.heap[b]? = w.heap[b]?
  old : ∀ i o, i < s'.n → s'.get i = some o → o.live → M'.blk i < w.heap.size → ∃ j oj, j < s.n ∧ s.get j = some oj ∧ oj.live ∧ M.blk j = M'.blk i
theorem Frm.refl (w : World) (s : St) (M : Mp) : Frm w s M w s M := ⟨Nat.le_refl _, fun _ _ _ => rfl, fun i o hi hg hl _ => ⟨i, o, hi, hg, hl, rfl⟩⟩
theorem Frm.trans {w w' w'' : World} {s s' s'' : St} {M M' M'' : Mp} (h : Frm w s M w' s' M') (k : Frm w' s' M' w'' s'' M'') : Frm w s M w'' s'' M'' := by
  refine ⟨Nat.le_trans h.size k.size, fun b hb hn => ?_, fun i o hi hg hl hb => ?_⟩
  · rw [k.blocks b (Nat.lt_of_lt_of_le hb h.size) fun i o hi hg hl e => ?_, h.blocks b hb hn]
    obtain ⟨j, oj, h1, h2, h3, h4⟩ := h.old i o hi hg hl (by rw [e]; exact hb)
    exact hn j oj h1 h2 h3 (h4.trans e)
  · obtain ⟨j, oj, h1, h2, h3, h4⟩ := k.old i o hi hg hl (Nat.lt_of_lt_of_le hb h.size)
    obtain ⟨l, ol, g1, g2, g3, g4⟩ := h.old j oj h1 h2 h3 (by rw [h4]; exact hb)
    exact ⟨l, ol, g1, g2, g3, g4.trans h4⟩

structure Ext (w : World) (s : St) (M : Mp) (w' : World) (s' : St) (M' : Mp) : Prop where
  cells : ∀ b off v, w.cell? ⟨b, off, none⟩ = some v → Imm s M b off → w'.cell? ⟨b, off, none⟩ = some v ∧ Imm s' M' b off
  n : s.n ≤ s'.n
  map : ∀ i, i < s.n → M'.blk i = M.blk i ∧ M'.cap i = M.cap i
  rows : ∀ i tip e, i < s.n → s'.get i = some (.row tip e) → s.get i = some (.row tip e)
  frm : Frm w s M w' s' M'
  keep : M'.env = M.env ∧ M'.out = M.out ∧ s'.k = s.k

theorem Ext.refl (w : World) (s : St) (M : Mp) : Ext w s M w s M := ⟨fun _ _ _ h i => ⟨h, i⟩, Nat.le_refl _, fun _ _ => ⟨rfl, rfl⟩, fun _ _ _ _ h => h, Frm.refl _ _ _, rfl, rfl, rfl⟩
theorem Ext.trans {w w' w'' : World} {s s' s'' : St} {M M' M'' : Mp} (h : Ext w s M w' s' M') (k : Ext w' s' M' w'' s'' M'') : Ext w s M w'' s'' M'' :=
  ⟨fun b off v hc hi => let ⟨c, i⟩ := h.cells b off v hc hi; k.cells b off v c i, Nat.le_trans h.n k.n,
   fun i hi => ⟨(k.map i (Nat.lt_of_lt_of_le hi h.n)).1.trans (h.map i hi).1, (k.map i (Nat.lt_of_lt_of_le hi h.n)).2.trans (h.map i hi).2⟩,
   fun i tip e hi hg => h.rows i tip e hi (k.rows i tip e (Nat.lt_of_lt_of_le hi h.n) hg), h.frm.trans k.frm, k.keep.1.trans h.keep.1, k.keep.2.1.trans h.keep.2.1, k.keep.2.2.trans h.keep.2.2⟩

theorem TokOk.ext {w w' : World} {s s' : St} {M M' : Mp} (h : Ext w s M w' s' M') {tok : Option Nat} {b off cap : Nat} (k : TokOk s M tok b off cap) : TokOk s' M' tok b off cap := by
  intro t ht
  obtain ⟨hn, hr⟩ := k t ht
  refine ⟨Nat.lt_of_lt_of_le hn h.n, fun tip e hg => ?_⟩
  obtain ⟨h1, h2, h3⟩ := hr tip e (h.rows t tip e hn hg)
  exact ⟨h1.trans (h.map t hn).1.symm, h2, h3.trans (h.map t hn).2.symm⟩

theorem TokD.ext {w w' : World} {s s' : St} {M M' : Mp} (h : Ext w s M w' s' M') {tok : Option Nat} {y : Value} (k : TokD s M tok y) : TokD s' M' tok y := by
  intro t ht
  obtain ⟨hn, hr⟩ := k t ht
  refine ⟨Nat.lt_of_lt_of_le hn h.n, fun tip e hg => ?_⟩
  obtain ⟨l, h1⟩ := hr tip e (h.rows t tip e hn hg)
  exact ⟨l, by rw [h1, (h.map t hn).1, (h.map t hn).2]⟩
theorem renFn.ext {w w' : World} {s s' : St} {M M' : Mp} (h : Ext w s M w' s' M') {f f' : Fn} (k : renFn s M f = some f') : renFn s' M' f = some f' := by
  cases f <;> simp only [renFn, reduceCtorEq] at k ⊢
  · exact k
  · split at k
    · rename_i l hl
      rw [if_pos (Nat.lt_of_lt_of_le hl h.n), (h.map _ hl).1]; exact k
    · cases k
mutual
theorem VR.ext {w w' : World} {s s' : St} {M M' : Mp} (h : Ext w s M w' s' M') : ∀ {c : AV} {v : Value}, VR w s M c v → VR w' s' M' c v
  | .v x, y, k => by unfold VR at k ⊢; exact k
  | .ref cs, y, k => by unfold VR at k ⊢; obtain ⟨b, off, e, k⟩ := k; exact ⟨b, off, e, VRs.ext h k⟩
  | .box i off, y, k => by unfold VR at k ⊢; exact ⟨Nat.lt_of_lt_of_le k.1 h.n, by rw [(h.map i k.1).1]; exact k.2⟩
  | .sl cs len tok, y, k => by unfold VR at k ⊢; obtain ⟨b, off, cap, e, hl, k, ht⟩ := k; exact ⟨b, off, cap, e, hl, VRs.ext h k, ht.ext h⟩
  | .ms i off len, y, k => by unfold VR at k ⊢; refine ⟨Nat.lt_of_lt_of_le k.1 h.n, ?_⟩; rw [(h.map i k.1).1]; exact k.2
  | .mg i len, y, k => by unfold VR at k ⊢; rw [(h.map i k.1).1, (h.map i k.1).2]; exact ⟨Nat.lt_of_lt_of_le k.1 h.n, k.2⟩
  | .e0, y, k => by unfold VR at k ⊢; exact k
  | .mp i, y, k => by unfold VR at k ⊢; exact ⟨Nat.lt_of_lt_of_le k.1 h.n, by rw [(h.map i k.1).1]; exact k.2⟩
  | .fn f a b, y, k => by unfold VR at k ⊢; obtain ⟨f', a', b', e, k0, k1, k2⟩ := k; exact ⟨f', a', b', e, renFn.ext h k0, VRl.ext h k1, VRl.ext h k2⟩
  | .agg cs, y, k => by unfold VR at k ⊢; obtain ⟨vs, e, k⟩ := k; exact ⟨vs, e, VRl.ext h k⟩
  | .tup cs, y, k => by unfold VR at k ⊢; obtain ⟨vs, e, k⟩ := k; exact ⟨vs, e, VRl.ext h k⟩
  | .iface t x, y, k => by unfold VR at k ⊢; obtain ⟨v, e, k⟩ := k; exact ⟨v, e, VR.ext h k⟩
  | .pan x, y, k => by unfold VR at k; exact k.elim
  | .any, y, k => by unfold VR at k ⊢; exact k
  | .sy _ _, y, k => by unfold VR at k ⊢; exact k
  | .x _ _, y, k => by unfold VR at k ⊢; rw [h.keep.1]; exact k
  | .d _ _ _, y, k => by unfold VR at k ⊢; rw [h.keep.1, h.keep.2.2]; exact ⟨k.1.mono h.cells, k.2.1, k.2.2.ext h⟩
  | .so _ _ _ _, y, k => by unfold VR at k ⊢; rw [h.keep.1, (h.map _ k.1).1, (h.map _ k.1).2]; exact ⟨Nat.lt_of_lt_of_le k.1 h.n, k.2⟩
  | .po _ _, y, k => by unfold VR at k ⊢; rw [h.keep.1, (h.map _ k.1).1]; exact ⟨Nat.lt_of_lt_of_le k.1 h.n, k.2⟩
  | .rd _ _ _, y, k => by unfold VR at k ⊢; rw [h.keep.1, h.keep.2.2]; obtain ⟨b, off, cs, e, e2, k, k2⟩ := k; exact ⟨b, off, cs, e, e2, DVs.mono h.cells k, k2⟩
theorem VRs.ext {w w' : World} {s s' : St} {M M' : Mp} (h : Ext w s M w' s' M') : ∀ {cs : List AV} {b off : Nat}, VRs w s M cs b off → VRs w' s' M' cs b off
  | [], _, _, _ => by unfold VRs; trivial
  | c :: r, b, off, k => by
    unfold VRs at k ⊢
    obtain ⟨⟨v, hv, k1⟩, k2, k3, k4⟩ := k
    obtain ⟨hc, hi⟩ := h.cells b off v hv k3
    exact ⟨⟨v, hc, VR.ext h k1⟩, k2, hi, VRs.ext h k4⟩
theorem VRl.ext {w w' : World} {s s' : St} {M M' : Mp} (h : Ext w s M w' s' M') : ∀ {cs : List AV} {vs : List Value}, VRl w s M cs vs → VRl w' s' M' cs vs
  | [], _, k => by unfold VRl at k ⊢; exact k
  | c :: r, vs, k => by
    unfold VRl at k ⊢
    obtain ⟨v, t, e, k1, k2⟩ := k
    exact ⟨v, t, e, VR.ext h k1, VRl.ext h k2⟩
end

theorem MR.ext {w w' : World} {s s' : St} {M M' : Mp} (h : Ext w s M w' s' M') : ∀ {es : List (Value × AV)} {vs : List MapEntry}, MR w s M es vs → MR w' s' M' es vs
  | [], _, k => k
  | (_, _) :: _, _, ⟨e, t, e1, e2, k1, k2⟩ => ⟨e, t, e1, e2, k1.ext h, MR.ext h k2⟩

section
variable {w : World} {s : St} {M : Mp}
@[simp] theorem VR_v {x y : Value} : VR w s M (.v x) y ↔ y = x ∧ scalar x = true := by unfold VR; exact Iff.rfl
theorem VR_v_of {x : Value} (h : scalar x = true) : VR w s M (.v x) x := by unfold VR; exact ⟨rfl, h⟩
theorem VR_und : VR w s M und undef := by unfold und VR undef; exact ⟨#[], rfl, by unfold VRl; rfl⟩
theorem VRl_nil : VRl w s M [] [] := by unfold VRl; rfl
theorem VRl_cons {c : AV} {r : List AV} {v : Value} {t : List Value} (h : VR w s M c v) (k : VRl w s M r t) : VRl w s M (c :: r) (v :: t) := by
  unfold VRl; exact ⟨v, t, rfl, h, k⟩
theorem VRl.length : ∀ {cs : List AV} {vs : List Value}, VRl w s M cs vs → cs.length = vs.length
  | [], _, k => by unfold VRl at k; subst k; rfl
  | c :: r, vs, k => by unfold VRl at k; obtain ⟨v, t, e, _, k2⟩ := k; rw [e, List.length_cons, List.length_cons, k2.length]
theorem VRl.get : ∀ {cs : List AV} {vs : List Value}, VRl w s M cs vs → ∀ i : Nat, (cs[i]? = none ∧ vs[i]? = none) ∨ ∃ c v, cs[i]? = some c ∧ vs[i]? = some v ∧ VR w s M c v
  | [], _, k, i => by unfold VRl at k; subst k; left; simp
  | c :: r, vs, k, i => by
    unfold VRl at k; obtain ⟨v, t, e, k1, k2⟩ := k; subst e
    cases i with
    | zero => right; exact ⟨c, v, rfl, rfl, k1⟩
    | succ i => simpa using k2.get i
theorem VRl.of_get : ∀ {cs : List AV} {vs : List Value}, cs.length = vs.length → (∀ (i : Nat) (c : AV) (v : Value), cs[i]? = some c → vs[i]? = some v → VR w s M c v) → VRl w s M cs vs
  | [], [], _, _ => VRl_nil
  | [], _ :: _, h, _ => by simp at h
  | _ :: _, [], h, _ => by simp at h
  | c :: r, v :: t, h, k => VRl_cons (k 0 c v rfl rfl) (VRl.of_get (by simpa using h) fun i c v h1 h2 => k (i + 1) c v (by simpa using h1) (by simpa using h2))
theorem VRl.append : ∀ {cs ds : List AV} {vs us : List Value}, VRl w s M cs vs → VRl w s M ds us → VRl w s M (cs ++ ds) (vs ++ us)
  | [], _, _, _, k, k' => by unfold VRl at k; subst k; exact k'
  | c :: r, _, _, _, k, k' => by unfold VRl at k; obtain ⟨v, t, e, k1, k2⟩ := k; subst e; exact VRl_cons k1 (k2.append k')
theorem VRl.take : ∀ {cs : List AV} {vs : List Value} (n : Nat), VRl w s M cs vs → VRl w s M (cs.take n) (vs.take n)
  | [], _, n, k => by unfold VRl at k; subst k; simpa using VRl_nil
  | c :: r, _, n, k => by
    unfold VRl at k; obtain ⟨v, t, e, k1, k2⟩ := k; subst e
    cases n with
    | zero => exact VRl_nil
    | succ n => exact VRl_cons k1 (k2.take n)
theorem VRl.drop : ∀ {cs : List AV} {vs : List Value} (n : Nat), VRl w s M cs vs → VRl w s M (cs.drop n) (vs.drop n)
  | [], _, n, k => by unfold VRl at k; subst k; simpa using VRl_nil
  | c :: r, _, n, k => by
    cases n with
    | zero => exact k
    | succ n => unfold VRl at k; obtain ⟨v, t, e, k1, k2⟩ := k; subst e; exact k2.drop n
theorem VRs_nil {b off : Nat} : VRs w s M [] b off := by unfold VRs; trivial
theorem VRs.get : ∀ {cs : List AV} {b off : Nat}, VRs w s M cs b off → ∀ (i : Nat) (c : AV), cs[i]? = some c → ∃ v, w.cell? ⟨b, off + i, none⟩ = some v ∧ VR w s M c v ∧ isCell c = true ∧ Imm s M b (off + i)
  | [], _, _, _, i, c, h => by simp at h
  | d :: r, b, off, k, i, c, h => by
    unfold VRs at k; obtain ⟨⟨v, hv, k1⟩, k2, k3, k4⟩ := k
    cases i with
    | zero => simp at h; subst h; exact ⟨v, hv, k1, k2, k3⟩
    | succ i => have := k4.get i c (by simpa using h); rw [show off + (i + 1) = off + 1 + i by omega]; exact this
theorem VRs.of_get : ∀ {cs : List AV} {b off : Nat}, (∀ (i : Nat) (c : AV), cs[i]? = some c → ∃ v, w.cell? ⟨b, off + i, none⟩ = some v ∧ VR w s M c v ∧ isCell c = true ∧ Imm s M b (off + i)) → VRs w s M cs b off
  | [], _, _, _ => VRs_nil
  | c :: r, b, off, k => by
    unfold VRs
    obtain ⟨v, hv, k1, k2, k3⟩ := k 0 c rfl
    exact ⟨⟨v, hv, k1⟩, k2, k3, VRs.of_get fun i d h => by have := k (i + 1) d (by simpa using h); rw [show off + (i + 1) = off + 1 + i by omega] at this; exact this⟩
theorem VRs.drop {cs : List AV} {b off : Nat} (h : VRs w s M cs b off) (n : Nat) : VRs w s M (cs.drop n) b (off + n) :=
  VRs.of_get fun i c hc => by
    have := h.get (n + i) c (by rw [List.getElem?_drop] at hc; exact hc)
    rw [show off + n + i = off + (n + i) by omega]; exact this
theorem VRs.take {cs : List AV} {b off : Nat} (h : VRs w s M cs b off) (n : Nat) : VRs w s M (cs.take n) b off :=
  VRs.of_get fun i c hc => by
    rw [List.getElem?_take] at hc
    split at hc
    · exact h.get i c hc
    · cases hc
end

/-! ### Steps of the world -/
section
variable {G} {B0 : Nat} {w0 w : World} {s : St} {M : Mp}

theorem St.get_new (s : St) (x : AObj) (i : Nat) (h : s.n < Tr.lid) : (s.new x).get i = if i = s.n then some x else s.get i := Tr.get_set _ _ _ _ h
theorem St.get_put (s : St) (j : Nat) (x : AObj) (i : Nat) (h : j < Tr.lid) : (s.put j x).get i = if i = j then some x else s.get i := Tr.get_set _ _ _ _ h

theorem cell?_lt {w : World} {b off : Nat} {v : Value} (h : w.cell? ⟨b, off, none⟩ = some v) : b < w.heap.size := World.block_lt_of_cell? _ _ h

def Mp.add (M : Mp) (i b c : Nat) : Mp := { M with blk := fun j => if j = i then b else M.blk j, cap := fun j => if j = i then c else M.cap j }

/-- A new object over a new block. -/
theorem ext_new (hb : s.n < Tr.lid) (hlt : ∀ i, i < s.n → M.blk i < w.heap.size) (ob : Obj) (x : AObj) (cap : Nat) : Ext w s M (w.alloc ob) (s.new x) (M.add s.n w.heap.size cap) := by
  refine ⟨fun b off v hc hi => ?_, Nat.le_succ _, fun i hi => ?_, fun i tip e hi hg => ?_, ⟨by rw [World.size_alloc]; omega, fun b hb _ => Below.heap_alloc w ob b hb, fun i o hi hg hl hlt => ?_⟩, rfl, rfl, rfl⟩
  · have hl := cell?_lt hc
    refine ⟨(World.cell?_alloc_lt w ob ⟨b, off, none⟩ hl).trans hc, fun i o hin hg hbk => ?_, hi.2⟩
    rw [St.get_new _ _ _ hb] at hg
    by_cases e : i = s.n
    · subst e; simp only [Mp.add, if_true] at hbk; omega
    · rw [if_neg e] at hg
      simp only [Mp.add, if_neg e] at hbk
      exact hi.1 i o (by simp only [St.new] at hin; omega) hg hbk
  · simp only [Mp.add, if_neg (Nat.ne_of_lt hi), and_self]
  · rw [St.get_new _ _ _ hb, if_neg (Nat.ne_of_lt hi)] at hg; exact hg
  · rw [St.get_new _ _ _ hb] at hg
    simp only [Mp.add] at hlt ⊢
    by_cases e : i = s.n
    · rw [if_pos e] at hlt; omega
    · rw [if_neg e] at hg
      exact ⟨i, o, by simp only [St.new] at hi; omega, hg, hl, by rw [if_neg e]⟩

theorem Sim.outw (h : Sim G B0 w0 w s M) {w' : World} (hw : w.heap.size ≤ w'.heap.size) : ∀ b off, M.out b off → b < w'.heap.size ∧ ∀ i, i < s.n → M.blk i ≠ b := fun b off ho => ⟨Nat.lt_of_lt_of_le (h.out b off ho).1 hw, (h.out b off ho).2⟩
theorem sim_new (h : Sim G B0 w0 w s M) (hb : s.n < Tr.lid) (ob : Obj) (x : AObj) (cap : Nat)
    (hx : ObjR (w.alloc ob) (s.new x) (M.add s.n w.heap.size cap) w.heap.size cap x) : Sim G B0 w0 (w.alloc ob) (s.new x) (M.add s.n w.heap.size cap) := by
  have hE : Ext w s M (w.alloc ob) (s.new x) (M.add s.n w.heap.size cap) := ext_new hb (fun i hi => (h.blk i hi).2) ob x cap
  have hB : B0 ≤ w.heap.size := Nat.le_trans h.size h.below.size
  refine ⟨h.below.alloc hB ob, h.size, ?_, fun i hi => ?_, fun i j oi oj hi hj gi gj li lj e => ?_, fun i o hi hg => ?_, fun g cs hg => (h.glob g cs hg).ext hE, h.fx, fun b off ho => ⟨by rw [World.size_alloc]; exact Nat.lt_succ_of_lt (h.out b off ho).1, fun i hi => ?_⟩⟩
  · simp only [St.new]; omega
  · simp only [Mp.add, World.size_alloc]
    by_cases e : i = s.n
    · rw [if_pos e]; omega
    · rw [if_neg e]; have := h.blk i (by simp only [St.new] at hi; omega); omega
  · rw [St.get_new _ _ _ hb] at gi gj
    simp only [St.new] at hi hj
    simp only [Mp.add] at e
    by_cases ei : i = s.n <;> by_cases ej : j = s.n
    · omega
    · rw [if_pos ei, if_neg ej] at e; have := (h.blk j (by omega)).2; omega
    · rw [if_neg ei, if_pos ej] at e; have := (h.blk i (by omega)).2; omega
    · rw [if_neg ei] at gi; rw [if_neg ej] at gj; rw [if_neg ei, if_neg ej] at e
      exact h.inj i j oi oj (by omega) (by omega) gi gj li lj e
  · rw [St.get_new _ _ _ hb] at hg
    simp only [St.new] at hi
    by_cases e : i = s.n
    · rw [if_pos e] at hg; cases hg; subst e; simp only [Mp.add, if_true]; exact hx
    · rw [if_neg e] at hg
      have ho := h.obj i o (by omega) hg
      have hl := (h.blk i (by omega)).2
      simp only [Mp.add, if_neg e]
      have hk : ∀ k, k < w.heap.size → (w.alloc ob).heap[k]? = w.heap[k]? := fun k hk => Below.heap_alloc w ob k hk
      cases o with
      | box cs esz => obtain ⟨c, e', fr, a1, a2, a3, a4⟩ := ho; exact ⟨c, e', fr, (hk _ hl).trans a1, a2.ext hE, a3, a4⟩
      | fz cs esz => obtain ⟨c, e', fr, a1, a2, a3⟩ := ho; exact ⟨c, e', fr, (hk _ hl).trans a1, a2.ext hE, a3⟩
      | row tip esz => obtain ⟨c, e', fr, a1, a2⟩ := ho; exact ⟨c, e', fr, (hk _ hl).trans a1, a2⟩
      | map es => obtain ⟨c, k, a1, a2⟩ := ho; exact ⟨c, k, (hk _ hl).trans a1, a2.ext hE⟩
      | dead => trivial
      | loop T ps asg body st pend => obtain ⟨rc, a1, a2, a3, a4, a5, a6, a7, a8⟩ := ho; exact ⟨rc, (hk _ hl).trans a1, a2, a3, a4, a5, a6, a7, fun t => (a8 t).ext hE⟩
      | defs => exact (hk _ hl).trans ho
      | sym k => show SymR _ _ _ _; rw [hk _ hl]; exact ho
  · have k1 := h.out b off ho
    have k2 := h.below.size
    simp only [St.new] at hi
    simp only [Mp.add]
    by_cases e : i = s.n
    · rw [if_pos e]; omega
    · rw [if_neg e]; exact k1.2 i (by omega)

theorem out_new (h : Sim G B0 w0 w s M) {b off : Nat} (hb : w.heap.size ≤ b) : ¬ M.out b off := fun k => by
  have := (h.out b off k).1
  have := h.below.size
  omega
theorem out_own (h : Sim G B0 w0 w s M) {i off : Nat} (hi : i < s.n) : ¬ M.out (M.blk i) off := fun k => (h.out _ off k).2 i hi rfl
/-- A draw. -/
theorem ext_drew : Ext w s M w.drew s M := ⟨fun _ _ _ h i => ⟨h, i⟩, Nat.le_refl _, fun _ _ => ⟨rfl, rfl⟩, fun _ _ _ _ h => h, ⟨Nat.le_refl _, fun _ _ _ => rfl, fun i o hi hg hl _ => ⟨i, o, hi, hg, hl, rfl⟩⟩, rfl, rfl, rfl⟩
theorem sim_drew (h : Sim G B0 w0 w s M) : Sim G B0 w0 w.drew s M :=
  ⟨h.below.drew, h.size, h.bound, h.blk, h.inj, fun i o hi hg => by
    have ho := h.obj i o hi hg
    cases o with
    | box cs esz => obtain ⟨c, e', fr, a1, a2, a3⟩ := ho; exact ⟨c, e', fr, a1, a2.ext ext_drew, a3⟩
    | fz cs esz => obtain ⟨c, e', fr, a1, a2, a3⟩ := ho; exact ⟨c, e', fr, a1, a2.ext ext_drew, a3⟩
    | row tip esz => exact ho
    | map es => obtain ⟨c, k, a1, a2⟩ := ho; exact ⟨c, k, a1, a2.ext ext_drew⟩
    | loop T ps asg body st pend => obtain ⟨rc, a1, a2, a3, a4, a5, a6, a7, a8⟩ := ho; exact ⟨rc, a1, a2, a3, a4, a5, a6, a7, fun t => (a8 t).ext ext_drew⟩
    | defs => exact ho
    | sym k => exact ho
    | dead => trivial, fun g cs hg => (h.glob g cs hg).ext ext_drew, h.fx, h.out⟩

/-- An object dies. -/
theorem ext_kill (t : Nat) (hb : t < Tr.lid) : Ext w s M w (s.put t .dead) M := by
  refine ⟨fun b off v hc hi => ⟨hc, fun i o hin hg hbk => ?_, hi.2⟩, Nat.le_refl _, fun _ _ => ⟨rfl, rfl⟩, fun i tip e hi hg => ?_, ⟨Nat.le_refl _, fun _ _ _ => rfl, fun i o hi hg hl _ => ?_⟩, rfl, rfl, rfl⟩
  · rw [St.get_put _ _ _ _ hb] at hg
    by_cases e : i = t
    · rw [if_pos e] at hg; cases hg; trivial
    · rw [if_neg e] at hg; exact hi.1 i o hin hg hbk
  · rw [St.get_put _ _ _ _ hb] at hg
    by_cases e : i = t
    · rw [if_pos e] at hg; cases hg
    · rw [if_neg e] at hg; exact hg
  · rw [St.get_put _ _ _ _ hb] at hg
    by_cases e : i = t
    · rw [if_pos e] at hg; cases hg; exact hl.elim
    · rw [if_neg e] at hg; exact ⟨i, o, hi, hg, hl, rfl⟩
theorem sim_kill (h : Sim G B0 w0 w s M) (t : Nat) (ht : t < s.n) : Sim G B0 w0 w (s.put t .dead) M := by
  have hb : t < Tr.lid := Nat.lt_of_lt_of_le ht h.bound
  have hE : Ext w s M w (s.put t .dead) M := ext_kill t hb
  refine ⟨h.below, h.size, h.bound, h.blk, fun i j oi oj hi hj gi gj li lj e => ?_, fun i o hi hg => ?_, fun g cs hg => (h.glob g cs hg).ext hE, h.fx, h.out⟩
  · rw [St.get_put _ _ _ _ hb] at gi gj
    by_cases ei : i = t
    · rw [if_pos ei] at gi; cases gi; exact li.elim
    · by_cases ej : j = t
      · rw [if_pos ej] at gj; cases gj; exact lj.elim
      · rw [if_neg ei] at gi; rw [if_neg ej] at gj; exact h.inj i j oi oj hi hj gi gj li lj e
  · rw [St.get_put _ _ _ _ hb] at hg
    by_cases e : i = t
    · rw [if_pos e] at hg; cases hg; trivial
    · rw [if_neg e] at hg
      have ho := h.obj i o hi hg
      cases o with
      | box cs esz => obtain ⟨c, e', fr, a1, a2, a3⟩ := ho; exact ⟨c, e', fr, a1, a2.ext hE, a3⟩
      | fz cs esz => obtain ⟨c, e', fr, a1, a2, a3⟩ := ho; exact ⟨c, e', fr, a1, a2.ext hE, a3⟩
      | row tip esz => exact ho
      | map es => obtain ⟨c, k, a1, a2⟩ := ho; exact ⟨c, k, a1, a2.ext hE⟩
      | dead => trivial
      | loop T ps asg body st pend => obtain ⟨rc, a1, a2, a3, a4, a5, a6, a7, a8⟩ := ho; exact ⟨rc, a1, a2, a3, a4, a5, a6, a7, fun t => (a8 t).ext hE⟩
      | defs => exact ho
      | sym k => exact ho

/-- One object's block is written. -/
theorem ext_write {w' : World} {t : Nat} {x y : AObj} (h : Sim G B0 w0 w s M) (ht : t < s.n) (hg : s.get t = some x) (hx : ∀ tip e, x ≠ .row tip e) (hl : x.live) (hy : ∀ tip e, y ≠ .row tip e) (hyl : y.live)
    (hw : ∀ k, k ≠ M.blk t → w'.heap[k]? = w.heap[k]?) (hsz : w.heap.size ≤ w'.heap.size) : Ext w s M w' (s.put t y) M := by
  have hb : t < Tr.lid := Nat.lt_of_lt_of_le ht h.bound
  refine ⟨fun b off v hc hi => ?_, Nat.le_refl _, fun _ _ => ⟨rfl, rfl⟩, fun i tip e hi hg' => ?_, ⟨hsz, fun b _ hno => hw b fun e => hno t x ht hg hl e.symm, fun i o hi hg' hl' _ => ?_⟩, rfl, rfl, rfl⟩
  · have hne : b ≠ M.blk t := by
      intro e
      have := hi.1 t x ht hg e.symm
      cases x with
      | row tip e => exact hx tip e rfl
      | dead => exact hl
      | box _ _ => exact this
      | fz _ _ => exact this
      | map _ => exact this
      | loop _ _ _ _ _ _ => exact this
      | defs => exact this
      | sym _ => exact this
    refine ⟨(World.cell?_of_block (w := w) (w' := w') (hw b hne)).trans hc, fun i o hin hgi hbk => ?_, hi.2⟩
    rw [St.get_put _ _ _ _ hb] at hgi
    by_cases e : i = t
    · subst e; exact (hne hbk.symm).elim
    · rw [if_neg e] at hgi; exact hi.1 i o hin hgi hbk
  · rw [St.get_put _ _ _ _ hb] at hg'
    by_cases e' : i = t
    · rw [if_pos e'] at hg'; cases hg'; exact (hy _ _ rfl).elim
    · rw [if_neg e'] at hg'; exact hg'
  · rw [St.get_put _ _ _ _ hb] at hg'
    by_cases e' : i = t
    · subst e'; exact ⟨i, x, ht, hg, hl, rfl⟩
    · rw [if_neg e'] at hg'; exact ⟨i, o, hi, hg', hl', rfl⟩
theorem sim_write {w' : World} {t : Nat} {x y : AObj} (h : Sim G B0 w0 w s M) (ht : t < s.n) (hg : s.get t = some x) (hx : ∀ tip e, x ≠ .row tip e) (hl : x.live) (hy : ∀ tip e, y ≠ .row tip e) (hyl : y.live)
    (hw : ∀ k, k ≠ M.blk t → w'.heap[k]? = w.heap[k]?) (hbel : Below B0 w0 w') (hsz : w'.heap.size = w.heap.size)
    (ho : ObjR w' (s.put t y) M (M.blk t) (M.cap t) y) : Sim G B0 w0 w' (s.put t y) M := by
  have hb : t < Tr.lid := Nat.lt_of_lt_of_le ht h.bound
  have hE : Ext w s M w' (s.put t y) M := ext_write h ht hg hx hl hy hyl hw (by omega)
  refine ⟨hbel, h.size, h.bound, fun i hi => by rw [hsz]; exact h.blk i hi, fun i j oi oj hi hj gi gj li lj e => ?_, fun i o hi hgi => ?_, fun g cs hg => (h.glob g cs hg).ext hE, h.fx, h.outw (Nat.le_of_eq hsz.symm)⟩
  · rw [St.get_put _ _ _ _ hb] at gi gj
    have key : ∀ i oi, i < s.n → (if i = t then some y else s.get i) = some oi → oi.live → ∃ o, s.get i = some o ∧ o.live := by
      intro i oi hi gi li
      by_cases e : i = t
      · subst e; exact ⟨x, hg, hl⟩
      · rw [if_neg e] at gi; exact ⟨oi, gi, li⟩
    obtain ⟨o1, g1, l1⟩ := key i oi hi gi li
    obtain ⟨o2, g2, l2⟩ := key j oj hj gj lj
    exact h.inj i j o1 o2 hi hj g1 g2 l1 l2 e
  · rw [St.get_put _ _ _ _ hb] at hgi
    by_cases e : i = t
    · subst e; rw [if_pos rfl] at hgi; cases hgi; exact ho
    · rw [if_neg e] at hgi
      have ho' := h.obj i o hi hgi
      cases o with
      | dead => trivial
      | box cs esz =>
        have hne : M.blk i ≠ M.blk t := fun e' => e (h.inj i t _ _ hi ht hgi hg trivial hl e')
        obtain ⟨c, e', fr, a1, a2, a3⟩ := ho'; exact ⟨c, e', fr, (hw _ hne).trans a1, a2.ext hE, a3⟩
      | fz cs esz =>
        have hne : M.blk i ≠ M.blk t := fun e' => e (h.inj i t _ _ hi ht hgi hg trivial hl e')
        obtain ⟨c, e', fr, a1, a2, a3⟩ := ho'; exact ⟨c, e', fr, (hw _ hne).trans a1, a2.ext hE, a3⟩
      | row tip esz =>
        have hne : M.blk i ≠ M.blk t := fun e' => e (h.inj i t _ _ hi ht hgi hg trivial hl e')
        obtain ⟨c, e', fr, a1, a2⟩ := ho'; exact ⟨c, e', fr, (hw _ hne).trans a1, a2⟩
      | map es =>
        have hne : M.blk i ≠ M.blk t := fun e' => e (h.inj i t _ _ hi ht hgi hg trivial hl e')
        obtain ⟨c, k, a1, a2⟩ := ho'; exact ⟨c, k, (hw _ hne).trans a1, a2.ext hE⟩
      | loop T ps asg body st pend =>
        have hne : M.blk i ≠ M.blk t := fun e' => e (h.inj i t _ _ hi ht hgi hg trivial hl e')
        obtain ⟨rc, a1, a2, a3, a4, a5, a6, a7, a8⟩ := ho'; exact ⟨rc, (hw _ hne).trans a1, a2, a3, a4, a5, a6, a7, fun t => (a8 t).ext hE⟩
      | defs =>
        have hne : M.blk i ≠ M.blk t := fun e' => e (h.inj i t _ _ hi ht hgi hg trivial hl e')
        exact (hw _ hne).trans ho'
      | sym k =>
        have hne : M.blk i ≠ M.blk t := fun e' => e (h.inj i t _ _ hi ht hgi hg trivial hl e')
        show SymR _ _ _ _; rw [hw _ hne]; exact ho'
end
end Go.Ab
