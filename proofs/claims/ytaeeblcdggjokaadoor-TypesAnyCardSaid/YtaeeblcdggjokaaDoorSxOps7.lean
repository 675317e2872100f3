/- The evaluator's operations against the model's, the very last: maps, copies, structs built, calls. -/
import Derived.Test.YtaeeblcdggjokaaDoorSxOps6
namespace Go.Ab
set_option linter.unusedVariables false
set_option linter.unusedSimpArgs false
set_option linter.unusedSectionVars false
set_option linter.constructorNameAsVariable false
open Go Go.RowKit

section
variable [Interp] {P : Program} {G : Nat → Option (List AV)} {B0 : Nat} {w0 w : World} {s : St} {M : Mp}

/-! ### Maps -/
omit [Interp] in
theorem ba_beq (x y : ByteArray) : (x == y) = true ↔ x = y := by
  rcases x with ⟨a⟩
  rcases y with ⟨b⟩
  show (a == b) = true ↔ _
  simp
theorem sameKey_now {t : TypeId} {d : TypeDesc} {k x : Value} {b : Bool} (hd : P.underlying t = some d) (hk : keyT P t k = true) (h : sameKey k x = some b) : Instr.sameNow d k x = some b := by
  unfold keyT at hk
  rw [hd] at hk
  cases k <;> cases x <;> simp only [sameKey] at h <;> first | (cases h; done) | skip
  · cases d <;> simp at hk
    exact h
  · cases d <;> simp at hk
    exact h
theorem findA_now {t : TypeId} {d : TypeDesc} (hd : P.underlying t = some d) {k : Value} (hk : keyT P t k = true) : ∀ {es : List (Value × AV)} {ents : List MapEntry} {r : Option AV} (i : Nat), findA k es = some r → MR w s M es ents →
    (r = none ∧ Instr.findNow d k ents i = some none) ∨ ∃ x j v, r = some x ∧ Instr.findNow d k ents i = some (some (j, v)) ∧ VR w s M x v
  | [], ents, r, i, h, k' => by
    simp only [findA, Option.some.injEq] at h; subst h
    simp only [MR] at k'; subst k'
    exact .inl ⟨rfl, rfl⟩
  | (kx, x) :: es, ents, r, i, h, k' => by
    obtain ⟨e, t', rfl, rfl, k1, k2⟩ := k'
    simp only [findA, Option.bind_eq_bind, Option.bind_eq_some_iff] at h
    obtain ⟨b, h1, h⟩ := h
    have h1 := sameKey_now hd hk h1
    cases b with
    | true =>
      simp only [if_true, Option.pure_def, Option.some.injEq] at h; subst h
      exact .inr ⟨x, i, e.val, rfl, by simp [Instr.findNow, h1], k1⟩
    | false =>
      simp only [Bool.false_eq_true, if_false] at h
      rcases findA_now hd hk (i + 1) h k2 with ⟨p, q⟩ | ⟨x', j, v, p, q, r⟩
      · exact .inl ⟨p, by simp [Instr.findNow, h1, q]⟩
      · exact .inr ⟨x', j, v, p, by simp [Instr.findNow, h1, q], r⟩
theorem run_checkKey {t : TypeId} {k : Value} (hk : keyT P t k = true) (b : Bool) (n : Nat) : (Instr.checkKey b (n + 1) t k).run P w = .ok () w := by
  unfold keyT at hk
  cases hd : P.underlying t with
  | none => rw [hd] at hk; simp at hk
  | some d =>
    rw [hd] at hk
    cases d <;> cases k <;> first | (simp at hk; done) | simp [Instr.checkKey, run_underlying hd]
theorem run_checkKey' {t : TypeId} {k : Value} (hk : keyT P t k = true) (b : Bool) : (Instr.checkKey b 10000 t k).run P w = .ok () w := run_checkKey hk b 9999

theorem s_lookup {o : Oper} {a : Act} {T : Tm} {t kt e : TypeId} {x ix : Operand} {ok : Bool} {c ck z : AV} {key : Value} {zv : Value} {r : Option AV} (hs : Sim G B0 w0 w s M) (hT : TmR w s M T a) (hop : o.op = .lookup t x ix ok) (hu : P.underlying t = some (.map kt e))
    (hix : opd G T ix = some ck) (hkey : unSc ck = some key) (hz : zeroT P e = some zv) (hz2 : ofValue zv = some z) (hk : keyT P kt key = true) (hx : opd G T x = some c)
    (hr : (c = .v (.map none) ∧ r = none) ∨ ∃ m es, c = .mp m ∧ s.get m = some (.map es) ∧ findA key es = some r) : OpOk P G B0 w0 w s M o a (if ok then .tup [r.getD z, .v (.bool r.isSome)] else r.getD z) s := by
  have vx := opd_sound hs hT hx
  have vk := unSc_some hkey (opd_sound hs hT hix)
  have vz := VR_ofValue (w := w) (s := s) (M := M) hz2
  obtain ⟨d, hd⟩ : ∃ d, P.underlying kt = some d := by
    cases hd : P.underlying kt with
    | none => unfold keyT at hk; rw [hd] at hk; simp at hk
    | some d => exact ⟨d, rfl⟩
  have fin : ∀ v, VR w s M (r.getD z) v → (Instr.lookup t (a.eval x) (a.eval ix) ok).run P w = .ok (if ok then .tuple #[v, .bool r.isSome] else v) w → OpOk P G B0 w0 w s M o a (if ok then .tup [r.getD z, .v (.bool r.isSome)] else r.getD z) s := by
    intro v hv hrun
    refine ok_here hs (v := if ok then .tuple #[v, .bool r.isSome] else v) (by simp [execOp, hop, hrun]) ?_
    cases ok with
    | true => exact VR_tup (VRl_cons hv (VRl_cons (VR_v_of rfl) VRl_nil))
    | false => exact hv
  rcases hr with ⟨rfl, rfl⟩ | ⟨m, es, rfl, hg, hf⟩
  · have ex := (VR_v.1 vx).1
    refine fin zv vz ?_
    cases ok <;> simp [Instr.lookup, run_underlying hu, ex, vk, run_checkKey' hk, Instr.findKey, run_underlying hd, Instr.findNow, run_zeroValue hz]
  · unfold VR at vx; obtain ⟨hm, ex⟩ := vx
    obtain ⟨ents, clock, h1, h2⟩ := hs.obj m _ hm hg
    have hgo : (getObj (M.blk m)).run P w = .ok (.map ents clock) w := by simp [getObj, Sem.run, h1]
    rcases findA_now hd hk 0 hf h2 with ⟨rfl, hn⟩ | ⟨y, j, v, rfl, hn, hv⟩
    · refine fin zv vz ?_
      cases ok <;> simp [Instr.lookup, run_underlying hu, ex, vk, hgo, run_checkKey' hk, Instr.findKey, run_underlying hd, hn, run_zeroValue hz]
    · refine fin v hv ?_
      cases ok <;> simp [Instr.lookup, run_underlying hu, ex, vk, hgo, run_checkKey' hk, Instr.findKey, run_underlying hd, hn]

theorem sameBits_key {t : TypeId} {k : Value} (hk : keyT P t k = true) (n : Nat) : Instr.sameBits n k k = true := by
  unfold keyT at hk
  cases hd : P.underlying t with
  | none => rw [hd] at hk; simp at hk
  | some d =>
    rw [hd] at hk
    cases d <;> cases k <;> first | (simp at hk; done) | (cases n <;> simp [Instr.sameBits, ba_beq])
theorem sameKey_eq {k x : Value} (h : sameKey k x = some true) : x = k := by
  cases k <;> cases x <;> simp only [sameKey] at h <;> first | (cases h; done) | skip
  · split at h
    · rename_i e; subst e; simp only [Option.some.injEq, beq_iff_eq] at h; rw [h]
    · cases h
  · simp only [Option.some.injEq] at h; rw [(ba_beq _ _).1 h]
theorem setA_now {t : TypeId} {d : TypeDesc} (hd : P.underlying t = some d) {k : Value} (hk : keyT P t k = true) {y : AV} {yv : Value} {clock : Nat} (hy : VR w s M y yv) : ∀ {es es' : List (Value × AV)} {ents : List MapEntry} (i : Nat), setA k y es = some es' → MR w s M es ents →
    (Instr.findNow d k ents i = some none ∧ MR w s M es' (ents ++ [{ key := k, val := yv, born := clock }])) ∨
    ∃ p v e, Instr.findNow d k ents i = some (some (i + p, v)) ∧ ents[p]? = some e ∧ e.key = k ∧ MR w s M es' (ents.modify p fun e => { e with key := k, val := yv })
  | [], es', ents, i, h, k' => by
    simp only [setA, Option.some.injEq] at h; subst h
    simp only [MR] at k'; subst k'
    exact .inl ⟨rfl, ⟨_, [], rfl, rfl, hy, rfl⟩⟩
  | (kx, x) :: es, es', ents, i, h, k' => by
    obtain ⟨e, t', rfl, rfl, k1, k2⟩ := k'
    simp only [setA, Option.bind_eq_bind, Option.bind_eq_some_iff] at h
    obtain ⟨b, h1, h⟩ := h
    have h1' := sameKey_now hd hk h1
    cases b with
    | true =>
      simp only [if_true, Option.pure_def, Option.some.injEq] at h; subst h
      have := sameKey_eq h1
      refine .inr ⟨0, e.val, e, by simp [Instr.findNow, h1'], rfl, this, ?_⟩
      exact ⟨_, t', rfl, rfl, hy, k2⟩
    | false =>
      simp only [Bool.false_eq_true, if_false, Option.bind_eq_some_iff, Option.pure_def, Option.some.injEq] at h
      obtain ⟨r, h2, rfl⟩ := h
      rcases setA_now hd hk hy (i + 1) h2 k2 with ⟨p, q⟩ | ⟨p, v, e', q1, q2, q3, q4⟩
      · exact .inl ⟨by simp [Instr.findNow, h1', p], ⟨e, _, rfl, rfl, k1, q⟩⟩
      · refine .inr ⟨p + 1, v, e', ?_, by simpa using q2, q3, ⟨e, _, rfl, rfl, k1, q4⟩⟩
        simp only [Instr.findNow, h1']
        rw [q1, show i + 1 + p = i + (p + 1) by omega]

theorem s_mapUpdate {o : Oper} {a : Act} {T : Tm} {t kt e : TypeId} {om ok ox : Operand} {ck y : AV} {key : Value} {m : Nat} {es es' : List (Value × AV)} (hs : Sim G B0 w0 w s M) (hT : TmR w s M T a) (hop : o.op = .mapUpdate t om ok ox ∨ o.op = .insert t om ok ox) (hu : P.underlying t = some (.map kt e))
    (hik : opd G T ok = some ck) (hkey : unSc ck = some key) (hy : opd G T ox = some y) (hk : keyT P kt key = true) (hx : opd G T om = some (.mp m)) (hg : s.get m = some (.map es)) (hset : setA key y es = some es') : OpOk P G B0 w0 w s M o a und (s.put m (.map es')) := by
  have vx := opd_sound hs hT hx
  have vy := opd_sound hs hT hy
  have vk := unSc_some hkey (opd_sound hs hT hik)
  obtain ⟨d, hd⟩ : ∃ d, P.underlying kt = some d := by
    cases hd : P.underlying kt with
    | none => unfold keyT at hk; rw [hd] at hk; simp at hk
    | some d => exact ⟨d, rfl⟩
  unfold VR at vx; obtain ⟨hm, ex⟩ := vx
  obtain ⟨ents, clock, h1, h2⟩ := hs.obj m _ hm hg
  have hlt := (hs.blk m hm).2
  have hgo : (getObj (M.blk m)).run P w = .ok (.map ents clock) w := by simp [getObj, Sem.run, h1]
  have hso : ∀ ob : Obj, (setObj (M.blk m) ob).run P w = .ok () { w with heap := w.heap.setIfInBounds (M.blk m) ob } := fun ob => by simp [setObj, Sem.run, h1]
  have hh : ∀ ob : Obj, ({ w with heap := w.heap.setIfInBounds (M.blk m) ob } : World).heap[M.blk m]? = some ob := fun ob => by
    show (w.heap.setIfInBounds (M.blk m) ob)[M.blk m]? = some ob
    rw [Array.getElem?_setIfInBounds_self, if_pos hlt]
  have hh2 : ∀ (ob : Obj) k, k ≠ M.blk m → ({ w with heap := w.heap.setIfInBounds (M.blk m) ob } : World).heap[k]? = w.heap[k]? := fun ob k hk => by
    show (w.heap.setIfInBounds (M.blk m) ob)[k]? = _
    rw [Array.getElem?_setIfInBounds_ne (Ne.symm hk)]
  have fin : ∀ ents' clock', (Instr.mapUpdate t (a.eval om) (a.eval ok) (a.eval ox)).run P w = .ok () { w with heap := w.heap.setIfInBounds (M.blk m) (.map ents' clock') } → MR w s M es' ents'.toList → OpOk P G B0 w0 w s M o a und (s.put m (.map es')) := by
    intro ents' clock' hrun hmr
    have hE : Ext w s M { w with heap := w.heap.setIfInBounds (M.blk m) (.map ents' clock') } (s.put m (.map es')) M := ext_write hs hm hg (fun _ _ => by simp) trivial (fun _ _ => by simp) trivial (hh2 _) (by simp)
    refine ok_skip (by rcases hop with hop | hop <;> simp [execOp, hop, hrun]) (sim_write hs hm hg (fun _ _ => by simp) trivial (fun _ _ => by simp) trivial (hh2 _) ?_ (by simp) ⟨ents', clock', hh _, hmr.ext hE⟩) hE
    exact hs.below.trans ⟨rfl, rfl, rfl, by simp, fun k hk => hh2 _ k (by have := (hs.blk m hm).1; omega)⟩
  rcases setA_now hd hk vy (clock := clock) 0 hset h2 with ⟨q1, q2⟩ | ⟨p, v, e', q1, q2, q3, q4⟩
  · refine fin (ents.push { key := key, val := a.eval ox, born := clock }) (clock + 1) ?_ (by simpa using q2)
    simp [Instr.mapUpdate, run_underlying hu, ex, vk, hgo, run_checkKey' hk, Instr.findKey, run_underlying hd, q1, hso]
  · refine fin (ents.modify p fun e => { e with key := key, val := a.eval ox }) clock ?_ (by simpa using q4)
    have hkk : (((ents[p]?).map (·.key)).getD key) = key := by rw [← Array.getElem?_toList, q2]; exact q3
    have hst : (Instr.keyThatStays key key).run P w = .ok key w := by unfold Instr.keyThatStays; rw [sameBits_key hk]; rfl
    simp [Instr.mapUpdate, run_underlying hu, ex, vk, hgo, run_checkKey' hk, Instr.findKey, run_underlying hd, q1, hkk, hst, hso]

end
end Go.Ab
