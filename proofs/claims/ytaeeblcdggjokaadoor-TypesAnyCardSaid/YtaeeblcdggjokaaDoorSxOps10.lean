/- The evaluator's operations against the model's: symbols. -/
import Derived.Test.YtaeeblcdggjokaaDoorSxOps9
import Derived.Laws.Strings
namespace Go.Ab
set_option linter.unusedVariables false
set_option linter.unusedSimpArgs false
set_option linter.unusedSectionVars false
set_option linter.constructorNameAsVariable false
open Go Go.RowKit

section
variable [Interp] {P : Program} {G : Nat → Option (List AV)} {B0 : Nat} {w0 w : World} {s : St} {M : Mp}

theorem fact_of (hs : Sim G B0 w0 w s M) {e : E} (h : hasE e s.k.fx = true) : e.den M.env = .v (.bool true) := hs.fx e (hasE_mem h)
theorem ofBool_true {b : Bool} (h : D.ofBool b = .v (.bool true)) : b = true := by
  unfold D.ofBool at h; cases h; rfl
theorem selfCmp_sound {env : Nat → D} : ∀ {e : E} {b c : Bool}, e.den env = D.ofBool b → selfCmp e = some c → c = b := by
  intro e b c he h
  unfold selfCmp at h
  split at h
  · rename_i op x y
    split at h
    · rename_i hab
      have := eEq_eq hab
      subst this
      simp only [E.den, E.denL, Prim.den] at he
      have he : cmpI op (x.den env).int (x.den env).int = b := by
        unfold D.ofBool at he; cases he; rfl
      subst he
      cases op <;> simp only [Option.some.injEq, reduceCtorEq] at h <;> subst h <;> simp [cmpI]
    · cases h
  · cases h
theorem ask_sound (hs : Sim G B0 w0 w s M) {e : E} {b c : Bool} (he : e.den M.env = D.ofBool b) (h : ask s.k e = some c) : c = b := by
  unfold ask at h
  split at h
  · rename_i h1
    cases h
    have := fact_of hs h1
    rw [he] at this
    exact (ofBool_true this).symm
  · split at h
    · rename_i h1
      cases h
      have := fact_of hs h1
      simp only [E.den, E.denL, Prim.den, he] at this
      have := ofBool_true this
      cases b
      · rfl
      · cases this
    · split at h
      · rename_i c0 hc
        split at h
        · rename_i h1
          cases h
          have h2 := fact_of hs h1
          unfold unNot at hc
          split at hc
          · cases hc
            simp only [E.den, E.denL, Prim.den, h2] at he
            cases b
            · rfl
            · cases he
          · cases hc
        · cases h
      · exact selfCmp_sound he h
theorem mkB_sound (hs : Sim G B0 w0 w s M) {e : E} {b : Bool} (he : e.den M.env = D.ofBool b) : VR w s M (mkB s.k e) (.bool b) := by
  unfold mkB
  split
  · rename_i c h
    rw [ask_sound hs he h]; exact VR_v_of rfl
  · unfold VR; exact ⟨he, rfl⟩
theorem toE_sound {a : AV} {t : Ty} {e : E} {v : Value} (h : toE a = some (t, e)) (k : VR w s M a v) : e.den M.env = .v v ∧ tyV t v = true := by
  unfold toE at h
  split at h
  · cases h; obtain ⟨rfl, _⟩ := VR_v.1 k; exact ⟨rfl, by simp [tyV]⟩
  · cases h; obtain ⟨rfl, _⟩ := VR_v.1 k; exact ⟨rfl, rfl⟩
  · cases h; obtain ⟨rfl, _⟩ := VR_v.1 k; exact ⟨rfl, rfl⟩
  · cases h; unfold VR at k; exact k
  · cases h
theorem tyV_int {k : IntKind} {v : Value} (h : tyV (.i k) v = true) : ∃ i, v = .int k i := by
  cases v <;> simp [tyV] at h
  subst h; exact ⟨_, rfl⟩
theorem tyV_b {v : Value} (h : tyV .b v = true) : ∃ i, v = .bool i := by cases v <;> simp [tyV] at h; exact ⟨_, rfl⟩
theorem tyV_s {v : Value} (h : tyV .s v = true) : ∃ i, v = .string i := by cases v <;> simp [tyV] at h; exact ⟨_, rfl⟩
theorem litI_den {e : E} {i : Int} {env : Nat → D} (h : litI e = some i) : (e.den env).int = i := by
  unfold litI at h
  split at h
  · cases h; rfl
  · cases h
theorem nonNeg_sound (hs : Sim G B0 w0 w s M) {e : E} (h : nonNeg s.k e = true) : 0 ≤ (e.den M.env).int := by
  unfold nonNeg at h
  split at h
  · rename_i i hi
    rw [litI_den hi]; simpa using h
  · rw [Bool.or_eq_true] at h
    rcases h with h | h
    · unfold isLen at h
      split at h
      · rename_i l
        simp only [E.den]
        unfold Prim.den
        split <;> simp_all [D.int, D.ofInt]
      · rename_i l
        simp only [E.den]
        unfold Prim.den
        split <;> simp_all [D.int, D.ofInt]
      · cases h
    · have := fact_of hs h
      simp only [E.den, E.denL, Prim.den] at this
      have := ofBool_true this
      simpa [cmpI, eInt, E.den, D.int] using this
theorem below_sound (hs : Sim G B0 w0 w s M) {a b : E} (h : below s.k a b = true) : (a.den M.env).int < (b.den M.env).int := by
  have := fact_of hs h
  simp only [E.den, E.denL, Prim.den] at this
  simpa [cmpI] using ofBool_true this
theorem upTo_sound (hs : Sim G B0 w0 w s M) {a b : E} (h : upTo s.k a b = true) : (a.den M.env).int ≤ (b.den M.env).int := by
  unfold upTo at h
  rw [Bool.or_eq_true, Bool.or_eq_true] at h
  rcases h with (h | h) | h
  · rw [eEq_eq h]; exact Int.le_refl _
  · split at h
    · rename_i i hi
      rw [Bool.and_eq_true, decide_eq_true_eq] at h
      rw [litI_den hi]
      exact Int.le_trans h.1 (nonNeg_sound hs h.2)
    · cases h
  · have := fact_of hs h
    simp only [E.den, E.denL, Prim.den] at this
    simpa [cmpI] using ofBool_true this
theorem short_sound (hs : Sim G B0 w0 w s M) {e : E} {x : ByteArray} (he : e.den M.env = .v (.string x)) (h : short s.k e = true) : (x.size : Int) ≤ textMax := by
  unfold short at h
  split at h
  · simp only [E.den, D.v.injEq, Value.string.injEq] at he
    subst he
    simpa using h
  · have := fact_of hs h
    simp only [E.den, E.denL, Prim.den, he] at this
    simpa [cmpI, eInt, E.den, D.int, D.ofInt, D.str] using ofBool_true this

theorem guard_scalar {op : BinOp} {t : TypeId} {ox oy : Operand} {x y : Value} (hx : okScalar x) (w : World) : (eqGuard op t ox oy x y).run P w = .ok () w := by
  cases x <;> first | exact hx.elim | (unfold eqGuard; split <;> rfl)

theorem s_symBin {o : Oper} {a : Act} {T : Tm} {op : BinOp} {t yt : TypeId} {x y : Operand} {c d r : AV} {ub : Bool} (hub : ub = true → P.underlying t = some .bool) (hs : Sim G B0 w0 w s M) (hT : TmR w s M T a) (hop : o.op = .binOp op t x y yt) (hx : opd G T x = some c) (hy : opd G T y = some d)
    (h : symBin s.k ub op c d = some r) : OpOk P G B0 w0 w s M o a r s := by
  have h1 := opd_sound hs hT hx
  have h2 := opd_sound hs hT hy
  have fin : ∀ {v : Value}, okScalar (a.eval x) → (binOp op t (a.eval x) (a.eval y)).run P w = .ok v w → VR w s M r v → OpOk P G B0 w0 w s M o a r s := fun {v} g1 g2 g3 => by
    refine ok_here hs (v := v) ?_ g3
    simp only [execOp, hop, Sem.run_bind, guard_scalar g1 w, Result.andThen_ok, g2, Sem.run_pure]
  unfold symBin at h
  split at h
  · rename_i k1 ex k2 ey e1 e2
    obtain ⟨d1, t1⟩ := toE_sound e1 h1
    obtain ⟨d2, t2⟩ := toE_sound e2 h2
    obtain ⟨i, hi⟩ := tyV_int t1
    obtain ⟨j, hj⟩ := tyV_int t2
    rw [hi] at d1; rw [hj] at d2
    have hok : okScalar (a.eval x) := by rw [hi]; trivial
    have hcmp : ∀ op', isCmp op' = true → op = op' → k1 = k2 → r = mkB s.k (.pr (.icmp op) [ex, ey]) → OpOk P G B0 w0 w s M o a r s := fun op' g0 g1 g2 g3 => by
      subst g1; subst g2; subst g3
      refine fin (v := .bool (cmpI op i j)) hok ?_ (mkB_sound hs (by simp only [E.den, E.denL, Prim.den, d1, d2]; rfl))
      rw [hi, hj]
      cases op <;> first | (cases g0; done) | (simp [binOp, Op.intCmp, cmpI])
    have har : ∀ op', (op' = .add ∨ op' = .sub ∨ op' = .mul ∨ op' = .and ∨ op' = .or ∨ op' = .xor ∨ op' = .andNot) → op = op' → k1 = k2 → r = .x (.i k1) (.pr (.iop op k1) [ex, ey]) → OpOk P G B0 w0 w s M o a r s := fun op' g0 g1 g2 g3 => by
      subst g1; subst g2; subst g3
      refine fin (v := .int k1 (iopV op k1 i j)) hok ?_ ?_
      · rw [hi, hj]
        rcases g0 with rfl | rfl | rfl | rfl | rfl | rfl | rfl <;> simp [binOp, Op.intArith, Op.intBits, iopV]
      · unfold VR
        refine ⟨?_, by simp [tyV]⟩
        simp only [E.den, E.denL, Prim.den, d1, d2]; rfl
    have hsh : ∀ op', (op' = .shl ∨ op' = .shr) → op = op' → nonNeg s.k ey = true → r = .x (.i k1) (.pr (.iop op k1) [ex, ey]) → OpOk P G B0 w0 w s M o a r s := fun op' g0 g1 g2 g3 => by
      subst g1; subst g3
      have hnn := nonNeg_sound hs g2
      rw [d2] at hnn
      have hnn : 0 ≤ j := hnn
      have hnn' : ¬ j < 0 := by omega
      refine fin (v := .int k1 (iopV op k1 i j)) hok ?_ ?_
      · rw [hi, hj]
        rcases g0 with rfl | rfl <;> simp [binOp, Op.shift, iopV, hnn']
      · unfold VR
        refine ⟨?_, by simp [tyV]⟩
        simp only [E.den, E.denL, Prim.den, d1, d2]; rfl
    cases op <;> simp only at h
    case add => split at h <;> first | (cases h; done) | (rename_i hk; cases h; exact har .add (by simp) rfl hk rfl)
    case sub => split at h <;> first | (cases h; done) | (rename_i hk; cases h; exact har .sub (by simp) rfl hk rfl)
    case mul => split at h <;> first | (cases h; done) | (rename_i hk; cases h; exact har .mul (by simp) rfl hk rfl)
    case quo =>
      split at h
      · rename_i hk
        split at h
        · rename_i l hl
          split at h
          · cases h
          · rename_i hz
            cases h
            subst hk
            have hjl : j = l := by
              have := litI_den (env := M.env) hl
              rw [d2] at this
              exact this
            have hz' : ¬ j = 0 := by rw [hjl]; exact hz
            refine fin (v := .int k1 (iopV .quo k1 i j)) hok ?_ ?_
            · rw [hi, hj]
              simp [binOp, Op.intDiv, iopV, hz']
            · unfold VR
              refine ⟨?_, by simp [tyV]⟩
              simp only [E.den, E.denL, Prim.den, d1, d2]; rfl
        · split at h
          · rename_i hz
            cases h
            subst hk
            have hf := fact_of hs hz
            simp only [E.den, E.denL, Prim.den, d2] at hf
            have hz' : ¬ j = 0 := by
              have := ofBool_true hf
              simpa [cmpI, D.int] using this
            refine fin (v := .int k1 (iopV .quo k1 i j)) hok ?_ ?_
            · rw [hi, hj]
              simp [binOp, Op.intDiv, iopV, hz']
            · unfold VR
              refine ⟨?_, by simp [tyV]⟩
              simp only [E.den, E.denL, Prim.den, d1, d2]; rfl
          · cases h
      · cases h
    case rem =>
      split at h
      · rename_i hk
        split at h
        · rename_i l hl
          split at h
          · cases h
          · rename_i hz
            cases h
            subst hk
            have hjl : j = l := by
              have := litI_den (env := M.env) hl
              rw [d2] at this
              exact this
            have hz' : ¬ j = 0 := by rw [hjl]; exact hz
            refine fin (v := .int k1 (iopV .rem k1 i j)) hok ?_ ?_
            · rw [hi, hj]
              simp [binOp, Op.intDiv, iopV, hz']
            · unfold VR
              refine ⟨?_, by simp [tyV]⟩
              simp only [E.den, E.denL, Prim.den, d1, d2]; rfl
        · split at h
          · rename_i hz
            cases h
            subst hk
            have hf := fact_of hs hz
            simp only [E.den, E.denL, Prim.den, d2] at hf
            have hz' : ¬ j = 0 := by
              have := ofBool_true hf
              simpa [cmpI, D.int] using this
            refine fin (v := .int k1 (iopV .rem k1 i j)) hok ?_ ?_
            · rw [hi, hj]
              simp [binOp, Op.intDiv, iopV, hz']
            · unfold VR
              refine ⟨?_, by simp [tyV]⟩
              simp only [E.den, E.denL, Prim.den, d1, d2]; rfl
          · cases h
      · cases h
    case and => split at h <;> first | (cases h; done) | (rename_i hk; cases h; exact har .and (by simp) rfl hk rfl)
    case or => split at h <;> first | (cases h; done) | (rename_i hk; cases h; exact har .or (by simp) rfl hk rfl)
    case xor => split at h <;> first | (cases h; done) | (rename_i hk; cases h; exact har .xor (by simp) rfl hk rfl)
    case andNot => split at h <;> first | (cases h; done) | (rename_i hk; cases h; exact har .andNot (by simp) rfl hk rfl)
    case shl => split at h <;> first | (cases h; done) | (rename_i hn; cases h; exact hsh .shl (by simp) rfl hn rfl)
    case shr => split at h <;> first | (cases h; done) | (rename_i hn; cases h; exact hsh .shr (by simp) rfl hn rfl)
    case eql => split at h <;> first | (cases h; done) | (rename_i hk; cases h; exact hcmp .eql rfl rfl hk rfl)
    case neq => split at h <;> first | (cases h; done) | (rename_i hk; cases h; exact hcmp .neq rfl rfl hk rfl)
    case lss => split at h <;> first | (cases h; done) | (rename_i hk; cases h; exact hcmp .lss rfl rfl hk rfl)
    case leq => split at h <;> first | (cases h; done) | (rename_i hk; cases h; exact hcmp .leq rfl rfl hk rfl)
    case gtr => split at h <;> first | (cases h; done) | (rename_i hk; cases h; exact hcmp .gtr rfl rfl hk rfl)
    case geq => split at h <;> first | (cases h; done) | (rename_i hk; cases h; exact hcmp .geq rfl rfl hk rfl)
  · rename_i ex ey e1 e2
    obtain ⟨d1, t1⟩ := toE_sound e1 h1
    obtain ⟨d2, t2⟩ := toE_sound e2 h2
    obtain ⟨i, hi⟩ := tyV_s t1
    obtain ⟨j, hj⟩ := tyV_s t2
    rw [hi] at d1; rw [hj] at d2
    have hok : okScalar (a.eval x) := by rw [hi]; trivial
    have hcmp : ∀ op', isCmp op' = true → op = op' → r = mkB s.k (.pr (.scmp op) [ex, ey]) → OpOk P G B0 w0 w s M o a r s := fun op' g0 g1 g3 => by
      subst g1; subst g3
      refine fin (v := .bool (cmpS op i j)) hok ?_ (mkB_sound hs (by simp only [E.den, E.denL, Prim.den, d1, d2]; rfl))
      rw [hi, hj]
      cases op <;> first | (cases g0; done) | (simp [binOp, Op.stringOp, cmpS])
    split at h
    · split at h
      · rename_i hc
        rw [Bool.and_eq_true] at hc
        cases h
        have l1 := short_sound hs d1 hc.1
        have l2 := short_sound hs d2 hc.2
        have hbig : ¬ (((i.size + j.size : Nat) : Int) > IntKind.i64.max) := by
          have : IntKind.i64.max = 9223372036854775807 := rfl
          unfold textMax at l1 l2
          omega
        refine fin (v := .string (i ++ j)) hok ?_ ?_
        · rw [hi, hj]
          simp only [binOp, Op.stringOp]
          rw [if_neg hbig]
          rfl
        · unfold VR
          refine ⟨?_, rfl⟩
          simp only [E.den, E.denL, Prim.den, d1, d2]; rfl
      · cases h
    all_goals first | (cases h; exact hcmp _ rfl rfl rfl) | cases h
  · rename_i ex ey e1 e2
    obtain ⟨d1, t1⟩ := toE_sound e1 h1
    obtain ⟨d2, t2⟩ := toE_sound e2 h2
    obtain ⟨i, hi⟩ := tyV_b t1
    obtain ⟨j, hj⟩ := tyV_b t2
    rw [hi] at d1; rw [hj] at d2
    have hok : okScalar (a.eval x) := by rw [hi]; trivial
    have hb : ∀ op', (op' = .eql ∨ op' = .neq) → op = op' → (if ub then some (mkB s.k (.pr (.bcmp op) [ex, ey])) else none) = some r → OpOk P G B0 w0 w s M o a r s := fun op' g0 g1 g2 => by
      subst g1
      split at g2
      · rename_i hu
        have hu := hub hu
        cases g2
        have heq : (Op.equal t (.bool i) (.bool j)).run P w = .ok (i == j) w := by
          have : ∀ d, (Op.equalIn (d + 1) t (.bool i) (.bool j)).run P w = .ok (i == j) w := fun d => by simp [Op.equalIn, run_underlying hu]
          exact this 9999
        rcases g0 with rfl | rfl
        · refine fin (v := .bool (i == j)) hok ?_ (mkB_sound hs (by simp only [E.den, E.denL, Prim.den, d1, d2]; rfl))
          rw [hi, hj]
          have : binOp .eql t (.bool i) (.bool j) = (do pure (.bool (← Op.equal t (.bool i) (.bool j)))) := rfl
          rw [this]
          simp only [Sem.run_bind, heq, Result.andThen_ok, Sem.run_pure]
        · refine fin (v := .bool (i != j)) hok ?_ (mkB_sound hs (by simp only [E.den, E.denL, Prim.den, d1, d2]; rfl))
          rw [hi, hj]
          have : binOp .neq t (.bool i) (.bool j) = (do pure (.bool (!(← Op.equal t (.bool i) (.bool j))))) := rfl
          rw [this]
          simp only [Sem.run_bind, heq, Result.andThen_ok, Sem.run_pure]
          rfl
      · cases g2
    split at h
    · exact hb _ (.inl rfl) rfl h
    · exact hb _ (.inr rfl) rfl h
    · cases h
  · cases h
theorem s_symUn {o : Oper} {a : Act} {T : Tm} {op : UnOp} {t : TypeId} {x : Operand} {c r : AV} (hs : Sim G B0 w0 w s M) (hT : TmR w s M T a) (hop : o.op = .unOp op t x) (hx : opd G T x = some c) (h : symUn s.k op c = some r) : OpOk P G B0 w0 w s M o a r s := by
  have h1 := opd_sound hs hT hx
  unfold symUn at h
  split at h
  · rename_i e e1
    cases h
    obtain ⟨d1, t1⟩ := toE_sound e1 h1
    obtain ⟨i, hi⟩ := tyV_b t1
    rw [hi] at d1
    refine ok_here hs (v := .bool (!i)) ?_ (mkB_sound hs (by simp only [E.den, E.denL, Prim.den, d1]; rfl))
    simp [execOp, hop, hi, Op.unary]
  · rename_i k1 e e1
    cases h
    obtain ⟨d1, t1⟩ := toE_sound e1 h1
    obtain ⟨i, hi⟩ := tyV_int t1
    rw [hi] at d1
    refine ok_here hs (v := .int k1 (k1.wrap (-i))) ?_ ?_
    · simp [execOp, hop, hi, Op.unary, Op.intArith]
    · unfold VR
      refine ⟨?_, by simp [tyV]⟩
      simp only [E.den, E.denL, Prim.den, d1]; rfl
  · cases h
theorem bytes_beq (i j : ByteArray) : (i == j) = (i.toList == j.toList) := by
  rw [ByteArray.toList_eq, ByteArray.toList_eq]
  show (i.data == j.data) = _
  by_cases h : i.data = j.data
  · rw [h]; simp
  · rw [beq_eq_false_iff_ne.2 h, beq_eq_false_iff_ne.2 (fun e => h (Array.toList_inj.1 e))]
def eqBody (d : Nat) (xs ys : Array Value) (f : Field) (_s : Option Bool × Unit) : Sem (ForInStep (Option Bool × Unit)) :=
  if f.name ≠ "_" then do
    let a ← part f.type xs f.offset
    let b ← part f.type ys f.offset
    let c ← Op.equalIn d f.type a b
    if (!c) = true then pure (ForInStep.done (some false, ())) else pure (ForInStep.yield (none, ()))
  else pure (ForInStep.yield (none, ()))
theorem eqFs_sound {g : TypeId → AV → AV → Option E} {d : Nat} {xs ys : List AV} {vs us : Array Value} (hg : ∀ t a b e va vb, g t a b = some e → VR w s M a va → VR w s M b vb → ∃ r : Bool, (Op.equalIn d t va vb).run P w = .ok r w ∧ e.den M.env = D.ofBool r)
    (hx : VRl w s M xs vs.toList) (hy : VRl w s M ys us.toList) : ∀ {fs : List Field} {es : List E}, eqFs g P fs xs ys = some es →
    ∃ r : Bool, (forIn fs ((none, ()) : Option Bool × Unit) (eqBody d vs us)).run P w = .ok (if r then (none, ()) else (some false, ())) w ∧ (E.denL M.env es).all D.bool = r
  | [], es, h => by
    simp only [eqFs, Option.some.injEq] at h
    subst h
    exact ⟨true, by simp, by simp [E.denL]⟩
  | f :: r, es, h => by
    unfold eqFs at h
    split at h
    · cases h
    · rename_i hn
      split at h
      · rename_i a b ha hb
        split at h
        · rename_i e es' he hes
          cases h
          obtain ⟨va, pa, qa⟩ := run_part (P := P) (w := w) hx ha
          obtain ⟨vb, pb, qb⟩ := run_part (P := P) (w := w) hy hb
          obtain ⟨r1, k1, k2⟩ := hg _ _ _ _ _ _ he qa qb
          obtain ⟨r2, j1, j2⟩ := eqFs_sound hg hx hy hes
          have hn' : f.name ≠ "_" := fun e => hn (by rw [e]; rfl)
          refine ⟨r1 && r2, ?_, ?_⟩
          · rw [List.forIn_cons]
            simp only [eqBody, if_pos hn', Sem.run_bind, pa, pb, k1, Result.andThen_ok]
            cases r1
            · simp
            · simp only [Bool.not_true, Bool.false_eq_true, if_false, Sem.run_pure, Result.andThen_ok, Bool.true_and]
              exact j1
          · simp only [E.denL, List.all_cons, k2, j2]
            cases r1 <;> rfl
        · cases h
      · cases h
theorem eqT_sound : ∀ (n : Nat) {t : TypeId} {a b : AV} {e : E} {va vb : Value}, eqT P n t a b = some e → VR w s M a va → VR w s M b vb → ∀ d, n ≤ d → ∃ r : Bool, (Op.equalIn d t va vb).run P w = .ok r w ∧ e.den M.env = D.ofBool r
  | 0, _, _, _, _, _, _, h, _, _, _, _ => by cases h
  | n + 1, t, a, b, e, va, vb, h, h1, h2, d, hd => by
    obtain ⟨d, rfl⟩ : ∃ d', d = d' + 1 := ⟨d - 1, by omega⟩
    unfold eqT at h
    split at h
    · rename_i fs xs ys hu
      split at h
      · cases h
      · rename_i hst
        simp only [Bool.not_eq_true] at hst
        obtain ⟨es, hes, rfl⟩ := Option.map_eq_some_iff.1 h
        unfold VR at h1 h2
        obtain ⟨vs, rfl, h1⟩ := h1
        obtain ⟨us, rfl, h2⟩ := h2
        obtain ⟨r, k1, k2⟩ := eqFs_sound (d := d) (fun t a b e va vb q g1 g2 => eqT_sound n q g1 g2 d (by omega)) h1 h2 hes
        refine ⟨r, ?_, by simp only [E.den, Prim.den, k2]⟩
        unfold Op.equalIn
        have hprog : ∀ w, (program : Sem Program).run P w = .ok P w := fun _ => rfl
        simp only [Sem.run_bind, run_underlying hu, Result.andThen_ok, hprog, hst, Bool.false_eq_true, if_false]
        rw [← Array.forIn_toList]
        have k1' := k1
        unfold eqBody at k1'
        rw [k1']
        cases r <;> rfl
    · rename_i a b hu
      split at h
      · rename_i ex ey e1 e2
        cases h
        obtain ⟨d1, t1⟩ := toE_sound e1 h1
        obtain ⟨d2, t2⟩ := toE_sound e2 h2
        obtain ⟨i, rfl⟩ := tyV_b t1
        obtain ⟨j, rfl⟩ := tyV_b t2
        exact ⟨i == j, by simp [Op.equalIn, run_underlying hu], by simp only [E.den, E.denL, Prim.den, d1, d2]; rfl⟩
      · cases h
    · rename_i kk a b hu
      split at h
      · rename_i k ex l ey e1 e2
        split at h
        · rename_i hk
          subst hk
          cases h
          obtain ⟨d1, t1⟩ := toE_sound e1 h1
          obtain ⟨d2, t2⟩ := toE_sound e2 h2
          obtain ⟨i, rfl⟩ := tyV_int t1
          obtain ⟨j, rfl⟩ := tyV_int t2
          exact ⟨i == j, by simp [Op.equalIn, run_underlying hu], by simp only [E.den, E.denL, Prim.den, d1, d2]; rfl⟩
        · cases h
      · cases h
    · rename_i a b hu
      split at h
      · rename_i ex ey e1 e2
        cases h
        obtain ⟨d1, t1⟩ := toE_sound e1 h1
        obtain ⟨d2, t2⟩ := toE_sound e2 h2
        obtain ⟨i, rfl⟩ := tyV_s t1
        obtain ⟨j, rfl⟩ := tyV_s t2
        exact ⟨i == j, by simp [Op.equalIn, run_underlying hu], by simp only [E.den, E.denL, Prim.den, d1, d2]; rw [bytes_beq]; rfl⟩
      · cases h
    · cases h
theorem s_symEqA {o : Oper} {a : Act} {T : Tm} {op : BinOp} {t yt : TypeId} {x y : Operand} {c d r : AV} (hs : Sim G B0 w0 w s M) (hT : TmR w s M T a) (hop : o.op = .binOp op t x y yt) (hx : opd G T x = some c) (hy : opd G T y = some d) (h : symEqA P s.k op t c d = some r) : OpOk P G B0 w0 w s M o a r s := by
  have h1 := opd_sound hs hT hx
  have h2 := opd_sound hs hT hy
  unfold symEqA at h
  split at h
  · rename_i xs ys
    split at h
    · cases h
    · rename_i hg
      simp only [Bool.not_eq_true] at hg
      split at h
      · rename_i e he
        obtain ⟨q, k1, k2⟩ := eqT_sound 10 he h1 h2 10000 (by omega)
        unfold VR at h1 h2
        obtain ⟨vs, e1, _⟩ := h1
        obtain ⟨us, e2, _⟩ := h2
        rw [e1, e2] at k1
        have k1 : (Op.equal t (.agg vs) (.agg us)).run P w = .ok q w := k1
        have guard : ∀ op', (eqGuard op' t x y (.agg vs) (.agg us)).run P w = .ok () w := fun op' => by
          unfold eqGuard
          split <;> simp [hg]
        split at h
        · cases h
          refine ok_here hs (v := .bool q) ?_ (mkB_sound hs k2)
          have hb : binOp .eql t (.agg vs) (.agg us) = (do pure (.bool (← Op.equal t (.agg vs) (.agg us)))) := rfl
          simp [execOp, hop, e1, e2, guard, hb, k1]
        · cases h
          refine ok_here hs (v := .bool (!q)) ?_ (mkB_sound hs (by simp only [E.den, E.denL, Prim.den, k2]; rfl))
          have hb : binOp .neq t (.agg vs) (.agg us) = (do pure (.bool (!(← Op.equal t (.agg vs) (.agg us))))) := rfl
          simp [execOp, hop, e1, e2, guard, hb, k1]
        · cases h
      · cases h
  · cases h
theorem s_symMM {o : Oper} {a : Act} {T : Tm} {c : Go.Call} {mx : Bool} {l : List AV} {r : AV} (hs : Sim G B0 w0 w s M) (hT : TmR w s M T a) (hop : o.op = .call c) (hc : c.callee = .builtin (bif mx then .max else .min)) (hargs : opds G T c.args.toList = some l) (h : symMM mx l = some r) : OpOk P G B0 w0 w s M o a r s := by
  have hv := opds_sound hs hT hargs
  unfold symMM at h
  split at h
  · rename_i x y
    split at h
    · rename_i k1 ex k2 ey e1 e2
      split at h
      · rename_i hk
        subst hk
        cases h
        unfold VRl at hv
        obtain ⟨v1, l1, hl, g1, hv⟩ := hv
        unfold VRl at hv
        obtain ⟨v2, l2, rfl, g2, hv⟩ := hv
        unfold VRl at hv
        subst hv
        obtain ⟨d1, t1⟩ := toE_sound e1 g1
        obtain ⟨d2, t2⟩ := toE_sound e2 g2
        obtain ⟨i, rfl⟩ := tyV_int t1
        obtain ⟨j, rfl⟩ := tyV_int t2
        have hcm : (c.args.map a.eval).toList = [.int k1 i, .int k1 j] := by rw [Array.toList_map]; exact hl
        refine ok_here hs (v := .int k1 (bif mx then (if j > i then j else i) else (if j < i then j else i))) ?_ ?_
        · cases mx
          · simp only [cond_false] at hc ⊢
            have key : (Builtin.min_ c.argTypes o.type (c.args.map a.eval)).run P w = .ok (.int k1 (if j < i then j else i)) w := by
              unfold Builtin.min_; rw [hcm]; rfl
            simp [execOp, hop, resolve, hc, invoke, builtin, key]
          · simp only [cond_true] at hc ⊢
            have key : (Builtin.max_ c.argTypes o.type (c.args.map a.eval)).run P w = .ok (.int k1 (if j > i then j else i)) w := by
              unfold Builtin.max_; rw [hcm]; rfl
            simp [execOp, hop, resolve, hc, invoke, builtin, key]
        · unfold VR
          refine ⟨?_, by simp [tyV]⟩
          simp only [E.den, E.denL, Prim.den, d1, d2, D.int, D.bool, D.ofBool, cmpI]
          cases mx
          · by_cases hij : j < i <;> simp [hij]
          · by_cases hij : i < j <;> simp [hij]
      · cases h
    · cases h
  · cases h
theorem s_symConv {o : Oper} {a : Act} {T : Tm} {src dst : TypeId} {x : Operand} {c r : AV} (hs : Sim G B0 w0 w s M) (hT : TmR w s M T a) (hop : o.op = .convert src dst x) (hx : opd G T x = some c) (h : symConv (P.underlying src) (P.underlying dst) c = some r) : OpOk P G B0 w0 w s M o a r s := by
  have h1 := opd_sound hs hT hx
  unfold symConv at h
  split at h
  · rename_i sd k k1 e hsd hd e1
    cases h
    obtain ⟨d1, t1⟩ := toE_sound e1 h1
    obtain ⟨i, hi⟩ := tyV_int t1
    rw [hi] at d1
    refine ok_here hs (v := .int k (k.wrap i)) ?_ ?_
    · simp only [execOp, hop, convert, Sem.run_bind, run_underlying hsd, run_underlying hd, hi, Result.andThen_ok]
      cases sd <;> simp [Conv.intToInt]
    · unfold VR
      refine ⟨?_, by simp [tyV]⟩
      simp only [E.den, E.denL, Prim.den, d1]; rfl
  · rename_i sd e hsd hd e1
    cases h
    obtain ⟨d1, t1⟩ := toE_sound e1 h1
    obtain ⟨i, hi⟩ := tyV_s t1
    rw [hi] at d1
    refine ok_here hs (v := .string i) ?_ ?_
    · simp only [execOp, hop, convert, Sem.run_bind, run_underlying hsd, run_underlying hd, hi, Result.andThen_ok]
      cases sd <;> simp
    · unfold VR; exact ⟨d1, rfl⟩
  · cases h
theorem s_symIndex {o : Oper} {a : Act} {T : Tm} {t : TypeId} {x ix : Operand} {c ci r : AV} (hs : Sim G B0 w0 w s M) (hT : TmR w s M T a) (hop : o.op = .index t x ix) (hu : P.underlying t = some .string) (hx : opd G T x = some c) (hi : opd G T ix = some ci) (h : symIndex s.k c ci = some r) : OpOk P G B0 w0 w s M o a r s := by
  have h1 := opd_sound hs hT hx
  have h2 := opd_sound hs hT hi
  unfold symIndex at h
  split at h
  · rename_i ex k ei e1 e2
    split at h
    · rename_i hc
      rw [Bool.and_eq_true] at hc
      cases h
      obtain ⟨d1, t1⟩ := toE_sound e1 h1
      obtain ⟨d2, t2⟩ := toE_sound e2 h2
      obtain ⟨i, hi'⟩ := tyV_s t1
      obtain ⟨j, hj⟩ := tyV_int t2
      rw [hi'] at d1; rw [hj] at d2
      have g1 := nonNeg_sound hs hc.1
      have g2 := below_sound hs hc.2
      rw [d2] at g1 g2
      simp only [E.den, E.denL, Prim.den, d1] at g2
      have g1 : 0 ≤ j := g1
      have g2 : j < (i.size : Int) := g2
      have hlt : j.toNat < i.size := by omega
      have hlt' : j.toNat < i.data.toList.length := by simpa using hlt
      refine ok_here hs (v := .int .u8 (i.data.toList.getD j.toNat 0).toNat) ?_ ?_
      · have hget : i[j.toNat]? = some (i.data.toList.getD j.toNat 0) := by
          rw [List.getD_eq_getElem?_getD, List.getElem?_eq_getElem hlt']
          rw [getElem?_pos i j.toNat hlt]
          rfl
        simp [execOp, hop, Instr.index, hj, asIntOf, run_underlying hu, hi', g1, hget]
      · unfold VR
        refine ⟨?_, rfl⟩
        simp only [E.den, E.denL, Prim.den, d1, d2]; rfl
    · cases h
  · cases h
theorem boundE_sound {d e : E} {c : Option AV} {ox : Option Operand} {T : Tm} {a : Act} (hs : Sim G B0 w0 w s M) (hT : TmR w s M T a) (ho : opdO G T ox = some c) (h : boundE d c = some e) :
    (ox = none ∧ e = d) ∨ ∃ x k i, ox = some x ∧ a.eval x = .int k i ∧ e.den M.env = .v (.int k i) := by
  cases ox with
  | none =>
    simp only [opdO, Option.some.injEq] at ho
    subst ho
    simp only [boundE, Option.some.injEq] at h
    exact .inl ⟨rfl, h.symm⟩
  | some x =>
    simp only [opdO, Option.map_eq_some_iff] at ho
    obtain ⟨v, hv, rfl⟩ := ho
    simp only [boundE] at h
    split at h
    · rename_i k l e1
      cases h
      obtain ⟨d1, t1⟩ := toE_sound e1 (opd_sound hs hT hv)
      obtain ⟨i, hi⟩ := tyV_int t1
      rw [hi] at d1
      exact .inr ⟨x, k, i, rfl, hi, d1⟩
    · cases h
theorem s_symSub {o : Oper} {a : Act} {T : Tm} {t : TypeId} {x : Operand} {lo hi : Option Operand} {c r : AV} {cl ch : Option AV} (hs : Sim G B0 w0 w s M) (hT : TmR w s M T a) (hop : o.op = .slice t x lo hi none) (hu : P.underlying t = some .string) (hx : opd G T x = some c)
    (hl : opdO G T lo = some cl) (hh : opdO G T hi = some ch) (h : symSub s.k c cl ch = some r) : OpOk P G B0 w0 w s M o a r s := by
  have h1 := opd_sound hs hT hx
  unfold symSub at h
  split at h
  · rename_i ex e1
    obtain ⟨d1, t1⟩ := toE_sound e1 h1
    obtain ⟨i, hi'⟩ := tyV_s t1
    rw [hi'] at d1
    split at h
    · rename_i l hh2 b1 b2
      split at h
      · rename_i hc
        simp only [Bool.and_eq_true] at hc
        obtain ⟨⟨⟨c1, c2⟩, c3⟩, c4⟩ := hc
        cases h
        have g1 := nonNeg_sound hs c1
        have g2 := nonNeg_sound hs c2
        have g3 := upTo_sound hs c3
        have g4 := upTo_sound hs c4
        simp only [E.den, E.denL, Prim.den, d1] at g4
        have g4 : (hh2.den M.env).int ≤ (i.size : Int) := g4
        refine ok_here hs (v := .string (i.extract (l.den M.env).int.toNat (hh2.den M.env).int.toNat)) ?_ ?_
        · rcases boundE_sound hs hT hh b2 with ⟨rfl, rfl⟩ | ⟨y, k, j, rfl, q1, q2⟩
          · have eh : ((E.pr Prim.slen [ex]).den M.env).int = (i.size : Int) := by simp only [E.den, E.denL, Prim.den, d1]; rfl
            rw [eh] at g3 ⊢
            rcases boundE_sound hs hT hl b1 with ⟨rfl, rfl⟩ | ⟨y, k, j, rfl, q1, q2⟩
            · have el : ((eInt 0).den M.env).int = 0 := rfl
              rw [el]
              simp [execOp, hop, Instr.sliceAt, hi', run_underlying hu, Instr.slice, Instr.sliceBounds]
            · rw [q2] at g1 g3 ⊢
              have g1 : 0 ≤ j := g1
              have g3 : j ≤ (i.size : Int) := g3
              simp [execOp, hop, Instr.sliceAt, hi', run_underlying hu, Instr.slice, Instr.sliceBounds, Instr.sliceBound, q1, asIntOf, g1, g3, D.int]
          · rw [q2] at g2 g3 g4 ⊢
            have g2 : 0 ≤ j := g2
            have g4 : j ≤ (i.size : Int) := g4
            have g3 : (l.den M.env).int ≤ j := g3
            rcases boundE_sound hs hT hl b1 with ⟨rfl, rfl⟩ | ⟨y', k', j', rfl, q1', q2'⟩
            · have el : ((eInt 0).den M.env).int = 0 := rfl
              rw [el]
              simp [execOp, hop, Instr.sliceAt, hi', run_underlying hu, Instr.slice, Instr.sliceBounds, Instr.sliceBound, q1, asIntOf, g2, g4, D.int]
            · rw [q2'] at g1 g3 ⊢
              have g1 : 0 ≤ j' := g1
              have g3 : j' ≤ j := g3
              have g5 : j' ≤ ((j.toNat : Nat) : Int) := by omega
              have g6 : j' ≤ max j 0 := by omega
              simp [execOp, hop, Instr.sliceAt, hi', run_underlying hu, Instr.slice, Instr.sliceBounds, Instr.sliceBound, q1, q1', asIntOf, g1, g2, g3, g4, g5, g6, D.int]
        · unfold VR
          refine ⟨?_, rfl⟩
          simp only [E.den, E.denL, Prim.den, d1]; rfl
      · cases h
    · cases h
  · cases h
/-! ### Rows -/
theorem fitsC_get {tb : Nat → List CT} : ∀ {cs : List D} {ct : List CT}, fitsC tb cs ct → cs.length = ct.length ∧ ∀ (j : Nat) (c : CT), ct[j]? = some c → ∃ d, cs[j]? = some d ∧ fits tb d c
  | [], [], _ => ⟨rfl, fun j c h => by simp at h⟩
  | d :: r, c :: t, h => by
    unfold fitsC at h
    obtain ⟨h1, h2⟩ := fitsC_get h.2
    refine ⟨by simp [h1], fun j c' hj => ?_⟩
    cases j with
    | zero => simp only [List.getElem?_cons_zero, Option.some.injEq] at hj; subst hj; exact ⟨d, rfl, h.1⟩
    | succ j => rw [List.getElem?_cons_succ] at hj ⊢; exact h2 j c' hj
  | [], _ :: _, h => by unfold fitsC at h; exact h.elim
  | _ :: _, [], h => by unfold fitsC at h; exact h.elim
theorem DVs_get {C : Nat → Nat → Option Value} {I : Nat → Nat → Prop} : ∀ {cs : List D} {b off : Nat}, DVs C I cs b off → ∀ (j : Nat) (d : D), cs[j]? = some d → ∃ v, C b (off + j) = some v ∧ DV C I d v ∧ I b (off + j)
  | [], _, _, _ => fun j d h => by simp at h
  | c :: r, b, off, k => fun j d hj => by
    unfold DVs at k
    obtain ⟨⟨v, k0, k1⟩, k2, k3⟩ := k
    cases j with
    | zero => simp only [List.getElem?_cons_zero, Option.some.injEq] at hj; subst hj; exact ⟨v, k0, k1, k2⟩
    | succ j =>
      rw [List.getElem?_cons_succ] at hj
      obtain ⟨u, g1, g2, g3⟩ := DVs_get k3 j d hj
      rw [show off + 1 + j = off + (j + 1) by omega] at g1 g3
      exact ⟨u, g1, g2, g3⟩
theorem denL_get {env : Nat → D} : ∀ {l : List E} (j : Nat), (E.denL env l)[j]? = (l[j]?).map (E.den env)
  | [], j => by simp [E.denL]
  | e :: r, 0 => by simp [E.denL]
  | e :: r, j + 1 => by simp only [E.denL, List.getElem?_cons_succ]; exact denL_get j
theorem cellE_den {env : Nat → D} {e : E} {cs : List D} {j : Nat} {d : D} (he : e.den env = .row cs) (hj : cs[j]? = some d) : (cellE e j).den env = d := by
  unfold cellE
  split
  · rename_i l
    simp only [E.den, Prim.den, D.row.injEq] at he
    subst he
    rw [denL_get, Option.map_eq_some_iff] at hj
    obtain ⟨x, hx, rfl⟩ := hj
    rw [List.getD_eq_getElem?_getD, hx]; rfl
  · simp only [E.den, E.denL, Prim.den, he, D.cells]
    rw [List.getD_eq_getElem?_getD, hj]; rfl
theorem cellA_VR {e : E} {cs : List D} {j : Nat} {d : D} {c : CT} {v : Value} (he : e.den M.env = .row cs) (hj : cs[j]? = some d) (hf : fits s.k.shape d c) (hd : DV (fun b off => w.cell? ⟨b, off, none⟩) (Imm s M) d v) : VR w s M (cellA e j c) v := by
  have h := cellE_den he hj
  cases c with
  | sc t =>
    cases d with
    | v x =>
      unfold DV at hd
      unfold fits at hf
      obtain ⟨rfl, _⟩ := hd
      unfold cellA VR
      exact ⟨h, hf⟩
    | nil => unfold fits at hf; exact hf.elim
    | lst _ => unfold fits at hf; exact hf.elim
    | row _ => unfold fits at hf; exact hf.elim
  | sl t =>
    unfold cellA VR
    rw [h]
    exact ⟨hd, hf, fun t ht => by cases ht⟩
theorem cellsA_isCell {e : E} : ∀ {j : Nat} {l : List CT}, (cellsA e j l).all isCell = true
  | _, [] => rfl
  | j, c :: r => by
    unfold cellsA
    rw [List.all_cons, cellsA_isCell]
    cases c <;> rfl
theorem cellsA_length {e : E} : ∀ {j : Nat} {l : List CT}, (cellsA e j l).length = l.length
  | _, [] => rfl
  | j, c :: r => by unfold cellsA; rw [List.length_cons, List.length_cons, cellsA_length]
theorem cellsA_take {e : E} : ∀ {j : Nat} {l : List CT} (n : Nat), (cellsA e j l).take n = cellsA e j (l.take n)
  | _, _, 0 => by simp [cellsA]
  | _, [], n + 1 => rfl
  | j, c :: r, n + 1 => by
    show (cellA e j c :: cellsA e (j + 1) r).take (n + 1) = cellsA e j (c :: r.take n)
    rw [List.take_succ_cons, cellsA_take n]; rfl
/-- The cells of a row from a place on. -/
theorem cellsA_VRl {e : E} {cs : List D} {b o : Nat} (he : e.den M.env = .row cs) (hd : DVs (fun b off => w.cell? ⟨b, off, none⟩) (Imm s M) cs b o) : ∀ {j : Nat} {l : List CT}, (∀ (i : Nat) (c : CT), l[i]? = some c → ∃ d, cs[j + i]? = some d ∧ fits s.k.shape d c) →
    ∃ vs, VRl w s M (cellsA e j l) vs ∧ At w b (o + j) vs
  | j, [], _ => ⟨[], VRl_nil, fun i v h => by simp at h⟩
  | j, c :: r, hf => by
    obtain ⟨d, h1, h2⟩ := hf 0 c rfl
    obtain ⟨v, g1, g2, _⟩ := DVs_get hd j d h1
    obtain ⟨vs, k1, k2⟩ := cellsA_VRl he hd (j := j + 1) (l := r) fun i c' hi => by
      obtain ⟨d', q1, q2⟩ := hf (i + 1) c' (by simpa using hi)
      exact ⟨d', by rw [show j + 1 + i = j + (i + 1) by omega]; exact q1, q2⟩
    refine ⟨v :: vs, ?_, fun i u hi => ?_⟩
    · unfold cellsA
      exact VRl_cons (cellA_VR he h1 h2 g2) k1
    · cases i with
      | zero => simp only [List.getElem?_cons_zero, Option.some.injEq] at hi; subst hi; exact g1
      | succ i =>
        rw [List.getElem?_cons_succ] at hi
        have := k2 i u hi
        rw [show o + (j + 1) + i = o + j + (i + 1) by omega] at this
        exact this
theorem s_loadRow {o : Oper} {a : Act} {T : Tm} {t rt : Nat} {x : Operand} {e : E} {off : Nat} {r : AV} (hs : Sim G B0 w0 w s M) (hT : TmR w s M T a) (hop : o.op = .load t x) (h : opd G T x = some (.rd rt e off)) (hl : loadRow P s.k t rt e off = some r) : OpOk P G B0 w0 w s M o a r s := by
  have hv := opd_sound hs hT h
  unfold VR at hv
  obtain ⟨b, bo, cs, ev, he, hd, hf⟩ := hv
  obtain ⟨hlen, hfg⟩ := fitsC_get hf
  obtain ⟨vs, k1, k2⟩ := cellsA_VRl he hd (j := off) (l := (s.k.shape rt).drop off) fun i c hi => by
    rw [List.getElem?_drop] at hi
    exact hfg _ c hi
  have ht : takeT P t (cellsA e off ((s.k.shape rt).drop off)) = some r := by
    simp only [loadRow, Option.bind_eq_bind, Option.bind_eq_some_iff] at hl
    obtain ⟨g, h1, hl⟩ := hl
    unfold takeT
    simp only [h1, Option.bind_eq_bind, Option.bind_some]
    cases g with
    | true =>
      simp only [if_true, Option.bind_eq_some_iff] at hl ⊢
      obtain ⟨n, h2, hl⟩ := hl
      refine ⟨n, h2, ?_⟩
      split at hl
      · rename_i hc
        cases hl
        have hc := Nat.le_of_ble_eq_true hc
        rw [if_pos (Nat.ble_eq_true_of_le (by rw [cellsA_length, List.length_drop]; omega)), cellsA_take]
      · cases hl
    | false =>
      simp only [Bool.false_eq_true, if_false, Option.bind_eq_some_iff, Option.pure_def, Option.some.injEq] at hl ⊢
      obtain ⟨c, h2, rfl⟩ := hl
      have hlt := (List.getElem?_eq_some_iff.1 h2).1
      rw [List.drop_eq_getElem_cons hlt]
      unfold cellsA
      rw [List.getElem?_eq_getElem hlt, Option.some.injEq] at h2
      rw [h2]; rfl
  obtain ⟨v, hr, hv⟩ := run_loadVar (P := P) k1 k2 ht
  exact ok_here hs (by simp [execOp, hop, Instr.loadAt, ev, Instr.sureAddr, hr]) hv
theorem s_fieldRow {o : Oper} {a : Act} {T : Tm} {st : TypeId} {x : Operand} {i : Nat} {fs : Array Field} {f : Field} {n rt off : Nat} {e : E} (hs : Sim G B0 w0 w s M) (hT : TmR w s M T a) (hop : o.op = .fieldAddr st x i) (hu : P.underlying st = some (.struct fs)) (hf : fs[i]? = some f)
    (hn : sizeT P f.type = some n) (h0 : n ≠ 0) (h : opd G T x = some (.rd rt e off)) : OpOk P G B0 w0 w s M o a (.rd rt e (off + f.offset)) s := by
  have hv := opd_sound hs hT h
  unfold VR at hv
  obtain ⟨b, bo, cs, ev, he, hd, hf'⟩ := hv
  refine ok_here hs (v := .pointer (some ⟨b, bo + off + f.offset, none⟩)) ?_ ?_
  · simp [execOp, hop, Instr.fieldAt, run_underlying hu, hf, ev, Instr.sureAddr, run_fieldPlace hn h0]
  · unfold VR; exact ⟨b, bo, cs, by rw [Nat.add_assoc], he, hd, hf'⟩
theorem rows_get {rt L : Nat} (hL : (s.k.shape rt).length = L) : ∀ {rows : List D} {b off : Nat}, DVr (fun b off => w.cell? ⟨b, off, none⟩) (Imm s M) rows b off → fitsR s.k.shape rows rt → ∀ (i : Nat) (d : D), rows[i]? = some d →
    ∃ cs, d = .row cs ∧ DVs (fun b off => w.cell? ⟨b, off, none⟩) (Imm s M) cs b (off + i * L) ∧ fitsC s.k.shape cs (s.k.shape rt)
  | [], _, _, _, _ => fun i d h => by simp at h
  | x :: r, b, off, hd, hf => fun i d hi => by
    unfold DVr at hd
    unfold fitsR at hf
    have hx : ∃ cs, x = .row cs ∧ DVs (fun b off => w.cell? ⟨b, off, none⟩) (Imm s M) cs b off ∧ fitsC s.k.shape cs (s.k.shape rt) := by
      cases x with
      | row cs => exact ⟨cs, rfl, by have := hd.1; unfold DVw at this; exact this, by have := hf.1; unfold fitsW at this; exact this⟩
      | v _ => have := hf.1; unfold fitsW at this; exact this.elim
      | nil => have := hf.1; unfold fitsW at this; exact this.elim
      | lst _ => have := hf.1; unfold fitsW at this; exact this.elim
    obtain ⟨cs, rfl, q1, q2⟩ := hx
    cases i with
    | zero =>
      simp only [List.getElem?_cons_zero, Option.some.injEq] at hi
      subst hi
      exact ⟨cs, rfl, by simpa using q1, q2⟩
    | succ i =>
      rw [List.getElem?_cons_succ] at hi
      obtain ⟨cs', g1, g2, g3⟩ := rows_get hL hd.2 hf.2 i d hi
      refine ⟨cs', g1, ?_, g3⟩
      have hlen : cs.length = L := (fitsC_get q2).1.trans hL
      simp only [D.cells, hlen] at g2
      rw [show off + L + i * L = off + (i + 1) * L by rw [Nat.add_mul]; omega] at g2
      exact g2
theorem s_symAt {o : Oper} {a : Act} {T : Tm} {t el rt size : Nat} {x ix : Operand} {e e' : E} {v : AV} (hs : Sim G B0 w0 w s M) (hT : TmR w s M T a) (hop : o.op = .indexAddr t x ix) (hu : P.underlying t = some (.slice el)) (hn : sizeT P el = some size) (hL : (s.k.shape rt).length = size)
    {tok : Option Nat} (h : opd G T x = some (.d rt e tok)) (hi : opd G T ix = some v) (ha : symAt s.k e v = some e') : OpOk P G B0 w0 w s M o a (.rd rt e' 0) s := by
  have hv := opd_sound hs hT h
  have hiv := opd_sound hs hT hi
  unfold symAt at ha
  split at ha
  · rename_i k i e1
    split at ha
    · rename_i hc
      rw [Bool.and_eq_true] at hc
      cases ha
      obtain ⟨d1, t1⟩ := toE_sound e1 hiv
      obtain ⟨j, hj⟩ := tyV_int t1
      rw [hj] at d1
      have g1 := nonNeg_sound hs hc.1
      have g2 := below_sound hs hc.2
      rw [d1] at g1 g2
      have g1 : 0 ≤ j := g1
      rcases VR_d hv with ⟨q, _⟩ | ⟨rows, b, off, cap, q1, q2, q3, q4, q5⟩
      · exfalso
        simp only [lenE, E.den, E.denL, Prim.den, q] at g2
        have g2 : j < 0 := g2
        omega
      · simp only [lenE, E.den, E.denL, Prim.den, q1] at g2
        have g2 : j < (rows.length : Int) := g2
        have hlt : j.toNat < rows.length := by omega
        obtain ⟨cs, w1, w2, w3⟩ := rows_get hL q4 q5 j.toNat rows[j.toNat] (List.getElem?_eq_getElem hlt)
        refine ok_here hs (v := .pointer (some ⟨b, off + j.toNat * size, none⟩)) ?_ ?_
        · simp [execOp, hop, Instr.indexAt, hj, asIntOf, run_underlying hu, q2, g1, g2, run_sizeOf hn, add_eq]
        · unfold VR
          refine ⟨b, off + j.toNat * size, cs, by simp, ?_, w2, w3⟩
          simp only [E.den, E.denL, Prim.den, q1, d1, D.rows, D.int]
          rw [List.getD_eq_getElem?_getD, List.getElem?_eq_getElem hlt]
          exact w1
    · cases ha
  · cases ha
theorem s_lenD {o : Oper} {a : Act} {T : Tm} {c : Go.Call} {t0 rt el : TypeId} {cs : List AV} {e : E} (hs : Sim G B0 w0 w s M) (hT : TmR w s M T a) (hop : o.op = .call c) (hc : c.callee = .builtin .len) (hA0 : c.argTypes[0]? = some t0)
    (h : opds G T c.args.toList = some cs) {tok : Option Nat} (hx : cs.head? = some (.d rt e tok)) (hd : P.underlying t0 = some (.slice el)) : OpOk P G B0 w0 w s M o a (.x (.i .i64) (lenE e)) s := by
  obtain ⟨v, hv, vx⟩ := args_head (hs := hs) hT h hx
  obtain ⟨n, e1, e2⟩ : ∃ n, (∃ b k, v = .slice b n k) ∧ (lenE e).den M.env = .v (goInt n) := by
    rcases VR_d vx with ⟨q, _, _, rfl⟩ | ⟨rows, b, off, cap, q1, rfl, _⟩
    · exact ⟨0, ⟨_, _, rfl⟩, by simp only [lenE, E.den, E.denL, Prim.den, q]; rfl⟩
    · exact ⟨rows.length, ⟨_, _, rfl⟩, by simp only [lenE, E.den, E.denL, Prim.den, q1]; rfl⟩
  obtain ⟨b, k, rfl⟩ := e1
  have key : (Builtin.len_ c.argTypes o.type (c.args.map a.eval)).run P w = .ok (goInt n) w := by
    unfold Builtin.len_
    rw [hA0, hv]
    simp only [Sem.run_bind, run_underlying hd, Result.andThen_ok]
    rfl
  refine ok_here hs (v := goInt n) ?_ ?_
  · simp [execOp, hop, resolve, hc, invoke, builtin, key]
  · unfold VR; exact ⟨e2, rfl⟩
theorem s_lenS {o : Oper} {a : Act} {T : Tm} {c : Go.Call} {t0 : TypeId} {cs : List AV} {e : E} (hs : Sim G B0 w0 w s M) (hT : TmR w s M T a) (hop : o.op = .call c) (hc : c.callee = .builtin .len) (hA0 : c.argTypes[0]? = some t0)
    (h : opds G T c.args.toList = some cs) (hx : cs.head? = some (.x .s e)) (hd : P.underlying t0 = some .string) : OpOk P G B0 w0 w s M o a (.x (.i .i64) (.pr .slen [e])) s := by
  obtain ⟨v, hv, vx⟩ := args_head (hs := hs) hT h hx
  unfold VR at vx
  obtain ⟨x, rfl⟩ := tyV_s vx.2
  have key : (Builtin.len_ c.argTypes o.type (c.args.map a.eval)).run P w = .ok (goInt x.size) w := by
    unfold Builtin.len_
    rw [hA0, hv]
    simp only [Sem.run_bind, run_underlying hd, Result.andThen_ok]
    rfl
  refine ok_here hs (v := goInt x.size) ?_ ?_
  · simp [execOp, hop, resolve, hc, invoke, builtin, key]
  · unfold VR
    refine ⟨?_, rfl⟩
    simp only [E.den, E.denL, Prim.den, vx.1]; rfl
end
end Go.Ab
