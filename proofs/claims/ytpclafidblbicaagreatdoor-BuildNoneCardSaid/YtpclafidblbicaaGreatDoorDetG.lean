/- The evaluator: maps. -/
import Derived.Test.YtpclafidblbicaaGreatDoorDetF
import GoSem.Extern.MapsClone
namespace Go.Det
open Go.RowKit (Below)

section
variable {P : Program} {B₀ : Nat} {w₀ : World} {μ : Mu} {A : St} {w : World}

theorem ER.get? {es es' : List MapEntry} (h : ER μ es es') : ∀ {i : Nat} {e : MapEntry}, es[i]? = some e → ∃ e', es'[i]? = some e' ∧ e'.key = e.key ∧ e'.born = e.born ∧ VRel μ e.val e'.val ∧ Det.gr e.key = true := by
  induction h with
  | nil => intro i e h; simp at h
  | cons hk hg hb hv _ ih =>
    intro i e h
    cases i with
    | zero => simp at h; subst h; exact ⟨_, rfl, hk, hb, hv, hg⟩
    | succ i => simpa using ih (by simpa using h)

theorem ER.modify {es es' : List MapEntry} (h : ER μ es es') {k : Value} (hk : Det.gr k = true) {v v' : Value} (hv : VRel μ v v') : ∀ i : Nat,
    ER μ (es.modify i fun e => { e with key := k, val := v }) (es'.modify i fun e => { e with key := k, val := v' }) := by
  induction h with
  | nil => intro i; cases i <;> exact .nil
  | cons hk' hg hb hv' hs ih =>
    intro i
    cases i with
    | zero => exact .cons rfl hk hb hv hs
    | succ i => exact .cons hk' hg hb hv' (ih i)

theorem ER.modifyKey {es es' : List MapEntry} (h : ER μ es es') {k : Value} (hk : Det.gr k = true) : ∀ i : Nat,
    ER μ (es.modify i fun e => { e with key := k }) (es'.modify i fun e => { e with key := k }) := by
  induction h with
  | nil => intro i; cases i <;> exact .nil
  | cons hk' hg hb hv' hs ih =>
    intro i
    cases i with
    | zero => exact .cons rfl hk hb hv' hs
    | succ i => exact .cons hk' hg hb hv' (ih i)

theorem ER.modifyVal {es es' : List MapEntry} (h : ER μ es es') {v v' : Value} (hv : VRel μ v v') : ∀ i : Nat,
    ER μ (es.modify i fun e => { e with val := v }) (es'.modify i fun e => { e with val := v' }) := by
  induction h with
  | nil => intro i; cases i <;> exact .nil
  | cons hk' hg hb hv' hs ih =>
    intro i
    cases i with
    | zero => exact .cons hk' hg hb hv hs
    | succ i => exact .cons hk' hg hb hv' (ih i)

theorem ER.push {es es' : List MapEntry} (h : ER μ es es') {k v v' : Value} (hk : Det.gr k = true) (hv : VRel μ v v') (c : Nat) :
    ER μ (es ++ [{ key := k, val := v, born := c }]) (es' ++ [{ key := k, val := v', born := c }]) := by
  induction h with
  | nil => exact .cons rfl hk rfl hv .nil
  | cons hk' hg hb hv' _ ih => exact .cons hk' hg hb hv' ih

theorem ER.erase {es es' : List MapEntry} (h : ER μ es es') : ∀ i : Nat, ER μ (es.eraseIdx i) (es'.eraseIdx i) := by
  induction h with
  | nil => intro i; exact .nil
  | cons hk' hg hb hv' hs ih =>
    intro i
    cases i with
    | zero => exact hs
    | succ i => exact .cons hk' hg hb hv' (ih i)

theorem findNow_rel {d : TypeDesc} {k : Value} {es es' : List MapEntry} (h : ER μ es es') : ∀ {j : Nat} {r : Option (Nat × Value)}, Instr.findNow d k es j = some r →
    (r = none ∧ Instr.findNow d k es' j = some none) ∨ ∃ i v v', r = some (i, v) ∧ Instr.findNow d k es' j = some (some (i, v')) ∧ VRel μ v v' := by
  induction h with
  | nil =>
    intro j r h
    simp only [Instr.findNow, Option.some.injEq] at h
    exact .inl ⟨h.symm, rfl⟩
  | @cons e e' es es' hk hg hb hv _ ih =>
    intro j r h
    rw [Instr.findNow] at h
    rw [Instr.findNow, hk]
    cases hs : Instr.sameNow d k e.key with
    | none => rw [hs] at h; cases h
    | some b =>
      rw [hs] at h
      cases b with
      | true =>
        simp only [Option.some.injEq] at h
        exact .inr ⟨j, e.val, e'.val, h.symm, rfl, hv⟩
      | false => exact ih h

theorem findNow_at {d : TypeDesc} {k : Value} : ∀ {es : List MapEntry} {j i : Nat} {v : Value}, Instr.findNow d k es j = some (some (i, v)) →
    j ≤ i ∧ ∃ e, es[i - j]? = some e ∧ Instr.sameNow d k e.key = some true
  | [], j, i, v, h => by simp [Instr.findNow] at h
  | e :: es, j, i, v, h => by
    rw [Instr.findNow] at h
    cases hs : Instr.sameNow d k e.key with
    | none => rw [hs] at h; cases h
    | some b =>
      rw [hs] at h
      cases b with
      | true =>
        simp only [Option.some.injEq, Prod.mk.injEq] at h
        obtain ⟨rfl, _⟩ := h
        exact ⟨Nat.le_refl _, e, by simp, hs⟩
      | false =>
        obtain ⟨h1, e', h2, h3⟩ := findNow_at (es := es) h
        refine ⟨by omega, e', ?_, h3⟩
        rw [show i - j = (i - (j + 1)) + 1 by omega]
        simpa using h2

theorem ba_eq {a b : ByteArray} (h : (a == b) = true) : a = b := by
  cases a
  cases b
  exact congrArg ByteArray.mk (eq_of_beq (α := Array UInt8) h)

theorem ba_refl (a : ByteArray) : (a == a) = true := by
  cases a
  exact beq_self_eq_true (α := Array UInt8) _

theorem sameNow_bits {d : TypeDesc} {k k' : Value} (h : Instr.sameNow d k k' = some true) : ∀ n, Instr.sameBits n k' k = true := by
  intro n
  unfold Instr.sameNow at h
  split at h
  · rename_i kd kk a kk' b
    split at h
    · rename_i he
      simp only [Option.some.injEq] at h
      subst he
      cases n <;> simp_all [Instr.sameBits]
    · cases h
  · rename_i a b
    simp only [Option.some.injEq] at h
    have e : a = b := ba_eq h
    subst e
    cases n <;> exact ba_refl a
  · rename_i a b
    simp only [Option.some.injEq] at h
    cases n <;> simp_all [Instr.sameBits]
  · cases h

theorem run_findKey {kt : TypeId} {d : TypeDesc} (hu : P.underlying kt = some d) {k : Value} {es : List MapEntry} {r : Option (Nat × Value)} (h : Instr.findNow d k es 0 = some r) (w : World) :
    (Instr.findKey kt k es).run P w = .ok r w := by
  unfold Instr.findKey
  simp only [Sem.run_bind, run_underlying hu, Result.andThen_ok, h, Sem.run_pure]

theorem findP_rel {kt : TypeId} {k : Value} {es es' : List MapEntry} (h : ER μ es es') : ∀ {j : Nat} {r : Option (Nat × Value)}, findP P kt k es j = some r →
    (r = none ∧ ∀ w, (Instr.findAsking kt k es' j).run P w = .ok none w) ∨ ∃ i v v', r = some (i, v) ∧ (∀ w, (Instr.findAsking kt k es' j).run P w = .ok (some (i, v')) w) ∧ VRel μ v v' := by
  induction h with
  | nil =>
    intro j r h
    simp only [findP, Option.some.injEq] at h
    exact .inl ⟨h.symm, fun w => rfl⟩
  | @cons e e' es es' hk hg hb hv _ ih =>
    intro j r h
    rw [findP] at h
    cases hs : runP P (Op.equal kt k e.key) with
    | none => rw [hs] at h; cases h
    | some b =>
      rw [hs] at h
      have hr := runP_run hs
      have un : ∀ w, (Instr.findAsking kt k (e' :: es') j).run P w = ((if b then pure (some (j, e'.val)) else Instr.findAsking kt k es' (j + 1) : Sem (Option (Nat × Value)))).run P w := by
        intro w
        rw [Instr.findAsking, hk]
        simp only [Sem.run_bind, hr, Result.andThen_ok]
      cases b with
      | true =>
        simp only [Option.some.injEq] at h
        exact .inr ⟨j, e.val, e'.val, h.symm, fun w => by rw [un]; rfl, hv⟩
      | false =>
        rcases ih h with ⟨h1, h2⟩ | ⟨i, v, v', h1, h2, h3⟩
        · exact .inl ⟨h1, fun w => by rw [un]; exact h2 w⟩
        · exact .inr ⟨i, v, v', h1, fun w => by rw [un]; exact h2 w, h3⟩

theorem findNow_struct {d : TypeDesc} (hd : isStruct d = true) (k : Value) (es : List MapEntry) (j : Nat) : Instr.findNow d k es j = none ∨ es = [] := by
  cases es with
  | nil => exact .inr rfl
  | cons e es =>
    refine .inl ?_
    rw [Instr.findNow]
    cases d <;> simp [isStruct] at hd <;> rfl

theorem aFind_eq {kt : TypeId} {k : Value} {es : Array MapEntry} {r : Option (Nat × Value)} (h : aFind P kt k es = some r) :
    Det.gr k = true ∧ (∀ (w : World) (b : Bool), (Instr.checkKey b 10000 kt k).run P w = .ok () w) ∧
    ∀ {μ : Mu} {es' : List MapEntry}, ER μ es.toList es' → (r = none ∧ ∀ w, (Instr.findKey kt k es').run P w = .ok none w) ∨
      ∃ i v v', r = some (i, v) ∧ (∀ w, (Instr.findKey kt k es').run P w = .ok (some (i, v')) w) ∧ VRel μ v v' := by
  unfold aFind at h
  cases hu : P.underlying kt with
  | none => rw [hu] at h; cases h
  | some d =>
    rw [hu] at h
    have now : ∀ d, P.underlying kt = some d → Instr.findNow d k es.toList 0 = some r → ∀ {μ : Mu} {es' : List MapEntry}, ER μ es.toList es' → (r = none ∧ ∀ w, (Instr.findKey kt k es').run P w = .ok none w) ∨
        ∃ i v v', r = some (i, v) ∧ (∀ w, (Instr.findKey kt k es').run P w = .ok (some (i, v')) w) ∧ VRel μ v v' := by
      intro d hu h μ es' e
      rcases findNow_rel e h with ⟨h1, h2⟩ | ⟨i, v, v', h1, h2, h3⟩
      · exact .inl ⟨h1, run_findKey hu h2⟩
      · exact .inr ⟨i, v, v', h1, run_findKey hu h2, h3⟩
    have str : ∀ d, P.underlying kt = some d → (if (isStruct d && Det.gr k && (runP P (Instr.checkKey true 10000 kt k)).isSome && (runP P (Instr.checkKey false 10000 kt k)).isSome) = true then findP P kt k es.toList 0 else none) = some r →
        Det.gr k = true ∧ (∀ (w : World) (b : Bool), (Instr.checkKey b 10000 kt k).run P w = .ok () w) ∧
        ∀ {μ : Mu} {es' : List MapEntry}, ER μ es.toList es' → (r = none ∧ ∀ w, (Instr.findKey kt k es').run P w = .ok none w) ∨
          ∃ i v v', r = some (i, v) ∧ (∀ w, (Instr.findKey kt k es').run P w = .ok (some (i, v')) w) ∧ VRel μ v v' := by
      intro d hu h
      split at h
      · rename_i hc
        simp only [Bool.and_eq_true] at hc
        obtain ⟨⟨⟨hd, hg⟩, c1⟩, c2⟩ := hc
        obtain ⟨u1, c1⟩ := Option.isSome_iff_exists.1 c1
        obtain ⟨u2, c2⟩ := Option.isSome_iff_exists.1 c2
        refine ⟨hg, fun w b => by cases b; exact runP_run c2 w; exact runP_run c1 w, fun {μ es'} e => ?_⟩
        have ask : ∀ w, (Instr.findKey kt k es').run P w = (Instr.findAsking kt k es').run P w := by
          intro w
          unfold Instr.findKey
          simp only [Sem.run_bind, run_underlying hu, Result.andThen_ok]
          rcases findNow_struct hd k es' 0 with hn | rfl
          · rw [hn]
          · rfl
        rcases findP_rel e h with ⟨h1, h2⟩ | ⟨i, v, v', h1, h2, h3⟩
        · exact .inl ⟨h1, fun w => by rw [ask]; exact h2 w⟩
        · exact .inr ⟨i, v, v', h1, fun w => by rw [ask]; exact h2 w, h3⟩
      · cases h
    cases d
    all_goals first
      | (refine str _ hu h; done)
      | (simp only at h
         split at h
         · rename_i hg
           refine ⟨hg, fun w b => ?_, now _ hu h⟩
           show (Instr.checkKey b (9999 + 1) kt k).run P w = .ok () w
           unfold Instr.checkKey
           simp only [Sem.run_bind, run_underlying hu, Result.andThen_ok]
           cases k <;> rfl
         · cases h)

theorem aFind_nil {kt : TypeId} {k : Value} {r : Option (Nat × Value)} (h : aFind P kt k #[] = some r) : r = none := by
  unfold aFind at h
  split at h
  · split at h
    all_goals
      split at h
      · first | simpa [Instr.findNow] using h.symm | simpa [findP] using h.symm
      · cases h
  · cases h

theorem sameKey_stay {es es' : Array MapEntry} {i : Nat} {k : Value} (h : sameKey es i k = true) (he : ER μ es.toList es'.toList) (w : World) :
    (Instr.keyThatStays (((es'[i]?).map (·.key)).getD k) k).run P w = .ok k w := by
  unfold sameKey at h
  cases e0 : es[i]? with
  | none => rw [e0] at h; cases h
  | some e =>
    rw [e0] at h
    obtain ⟨e', h1, h2, _⟩ := he.get? (i := i) (e := e) (by simpa using e0)
    have h1' : es'[i]? = some e' := by simpa using h1
    unfold Instr.keyThatStays
    rw [h1']
    simp only [Option.map_some, Option.getD_some, h2]
    rw [if_pos h]
    rfl

theorem aDelete_good {argTypes : Array TypeId} {ty : TypeId} {args args' : Array Value} {v : Value} {A' : St} (hS : Sim B₀ w₀ A.ro μ A.get w) (h : aDelete P argTypes args A = some (v, A'))
    (ha : LR μ args.toList args'.toList) : Good P B₀ w₀ μ A A' (Builtin.delete_ argTypes ty args') w v := by
  unfold aDelete at h
  cases t0 : argTypes[0]? with
  | none => simp [t0, fail_eq] at h
  | some mt =>
  cases a0 : args[0]? with
  | none => simp [t0, a0, fail_eq] at h
  | some m =>
  cases a1 : args[1]? with
  | none => cases m <;> first | (simp [t0, a0, a1, fail_eq] at h; done) | (rename_i r; cases r <;> simp [t0, a0, a1, fail_eq] at h)
  | some k =>
  cases m <;> try (simp [t0, a0, a1, fail_eq] at h; done)
  rename_i r
  cases r with
  | none => simp [t0, a0, a1, fail_eq] at h
  | some r =>
  simp only [t0, a0, a1] at h
  obtain ⟨m', b0, hm⟩ := ha.arr? a0
  obtain ⟨k', b1, hk⟩ := ha.arr? a1
  cases hu : P.underlying mt with
  | none => simp [hu, fail_eq] at h
  | some d =>
  simp only [hu] at h
  cases d <;> try (simp [fail_eq] at h; done)
  rename_i kt et
  simp only [bind_eq, opt_eq] at h
  obtain ⟨⟨es, clock⟩, B1, h1, r1, B2, ⟨h2, rfl⟩, h3⟩ := h
  obtain ⟨h4, rfl⟩ := rdMap_eq h1
  obtain ⟨hg, hck, hfk⟩ := aFind_eq h2
  have e := (hk.gr hg).symm
  subst e
  cases hm with
  | ground n hg => cases n <;> simp [ground] at hg
  | @map id b β S hmu =>
    obtain ⟨es', e1, rfl, e2⟩ := hS.map h4 hmu
    have g1 := run_getObj (P := P) e1 (by intro c e f; simp)
    rcases hfk e2 with ⟨rfl, hf'⟩ | ⟨i, v1, v2, rfl, hf', _⟩
    · simp only [bind_eq, wr_eq, ret_eq, Prod.mk.injEq, St.look_ro] at h3
      obtain ⟨u, B3, ⟨hl, hro, rfl⟩, rfl, rfl⟩ := h3
      refine ⟨μ, _, .tuple #[], ?_, MExt.refl _ _ _, Sim.putObj (A := A.look r) hS hl hro h4 hmu e1 (o2' := .map es' clock) ⟨es', rfl, rfl, e2⟩, .ground 1 rfl⟩
      have q2 := run_setObj (P := P) (o' := .map es' clock) e1 (by intro c e f; simp)
      unfold Builtin.delete_
      simp only [t0, b0, b1, Sem.run_bind, run_underlying hu, Result.andThen_ok, g1, hck, hf', q2, Sem.run_pure]
    · simp only [bind_eq, wr_eq, ret_eq, Prod.mk.injEq, St.look_ro] at h3
      obtain ⟨u, B3, ⟨hl, hro, rfl⟩, rfl, rfl⟩ := h3
      refine ⟨μ, _, .tuple #[], ?_, MExt.refl _ _ _, Sim.putObj (A := A.look r) hS hl hro h4 hmu e1 (o2' := .map (es'.eraseIdxIfInBounds i) clock) ⟨_, rfl, rfl, ?_⟩, .ground 1 rfl⟩
      · have q2 := run_setObj (P := P) (o' := .map (es'.eraseIdxIfInBounds i) clock) e1 (by intro c e f; simp)
        unfold Builtin.delete_
        simp only [t0, b0, b1, Sem.run_bind, run_underlying hu, Result.andThen_ok, g1, hck, hf', q2, Sem.run_pure]
      · have := e2.erase i
        simpa using this

theorem pairRel {v v' : Value} (hv : VRel μ v v') (b : Bool) : VRel μ (.tuple #[v, .bool b]) (.tuple #[v', .bool b]) := by
  have : LR μ [v, .bool b] [v', .bool b] := .cons hv (.cons (.ground 1 rfl) .nil)
  exact .tuple rfl fun i => by rw [arr_getD, arr_getD]; exact this.getD i

theorem aLookup_good {t : TypeId} {m m' k k' v : Value} {ok : Bool} {A' : St} (hS : Sim B₀ w₀ A.ro μ A.get w) (h : aLookup P t m k ok A = some (v, A')) (hm : VRel μ m m') (hk : VRel μ k k') :
    Good P B₀ w₀ μ A A' (Instr.lookup t m' k' ok) w v := by
  unfold aLookup at h
  cases hu : P.underlying t with
  | none => simp [hu, fail_eq] at h
  | some d =>
  simp only [hu] at h
  cases d <;> try (simp [fail_eq] at h; done)
  rename_i kt et
  simp only [bind_eq, opt_eq] at h
  obtain ⟨z, B1, ⟨hz, rfl⟩, h1⟩ := h
  obtain ⟨_, _, _, hgz⟩ := tzero_info hz
  have hzr : VRel μ z z := .of_gr hgz
  cases m <;> try (simp [fail_eq] at h1; done)
  rename_i r
  cases r with
  | none =>
    simp only [bind_eq, opt_eq, ret_eq, Prod.mk.injEq] at h1
    obtain ⟨r1, B2, ⟨h2, rfl⟩, rfl, rfl⟩ := h1
    obtain ⟨hg, hck, hfk⟩ := aFind_eq h2
    have e := (hk.gr hg).symm
    subst e
    have e := hm.same 1 rfl
    subst e
    have hr1 : r1 = none := aFind_nil h2
    subst hr1
    obtain ⟨_, hf⟩ := (hfk (μ := μ) .nil).resolve_right (by rintro ⟨_, _, _, h, _⟩; cases h)
    refine Good.quiet hS rfl (v' := if ok then .tuple #[z, .bool false] else z) ?_ ?_
    · unfold Instr.lookup
      simp only [Sem.run_bind, run_underlying hu, Result.andThen_ok, Sem.run_pure, hck, hf, run_zeroValue hz]
    · cases ok
      · exact hzr
      · exact pairRel hzr false
  | some r =>
    simp only [bind_eq, opt_eq] at h1
    obtain ⟨⟨es, clock⟩, B2, h2, r1, B3, ⟨h3, rfl⟩, h4⟩ := h1
    obtain ⟨h5, rfl⟩ := rdMap_eq h2
    obtain ⟨hg, hck, hfk⟩ := aFind_eq h3
    have e := (hk.gr hg).symm
    subst e
    cases hm with
    | ground n hg => cases n <;> simp [ground] at hg
    | @map id b β S hmu =>
      obtain ⟨es', e1, rfl, e2⟩ := hS.map h5 hmu
      have g1 := run_getObj (P := P) e1 (by intro c e f; simp)
      rcases hfk e2 with ⟨rfl, hf'⟩ | ⟨i, v1, v2, rfl, hf', hv⟩
      · simp only [ret_eq, Prod.mk.injEq] at h4
        obtain ⟨rfl, rfl⟩ := h4
        refine Good.quiet hS rfl (v' := if ok then .tuple #[z, .bool false] else z) ?_ ?_
        · unfold Instr.lookup
          simp only [Sem.run_bind, run_underlying hu, Result.andThen_ok, Sem.run_pure, g1, hck, hf', run_zeroValue hz]
        · cases ok
          · exact hzr
          · exact pairRel hzr false
      · simp only [ret_eq, Prod.mk.injEq] at h4
        obtain ⟨rfl, rfl⟩ := h4
        refine Good.quiet hS rfl (v' := if ok then .tuple #[v2, .bool true] else v2) ?_ ?_
        · unfold Instr.lookup
          simp only [Sem.run_bind, run_underlying hu, Result.andThen_ok, Sem.run_pure, g1, hck, hf']
        · cases ok
          · exact hv
          · exact pairRel hv true

theorem aMapUpdate_good {t : TypeId} {m m' k k' v v' : Value} {A' : St} {u : Unit} (hS : Sim B₀ w₀ A.ro μ A.get w) (h : aMapUpdate P t m k v A = some (u, A')) (hm : VRel μ m m') (hk : VRel μ k k') (hv : VRel μ v v') :
    GoodU P B₀ w₀ μ A A' (Instr.mapUpdate t m' k' v') w ∧ A'.next = A.next ∧ A'.ro = A.ro := by
  unfold aMapUpdate at h
  cases hu : P.underlying t with
  | none => simp [hu, fail_eq] at h
  | some d =>
  simp only [hu] at h
  cases d <;> try (simp [fail_eq] at h; done)
  rename_i kt et
  cases m <;> try (simp [fail_eq] at h; done)
  rename_i r
  cases r with
  | none => simp [fail_eq] at h
  | some r =>
  simp only [bind_eq, opt_eq] at h
  obtain ⟨⟨es, clock⟩, B2, h2, r1, B3, ⟨h3, rfl⟩, h4⟩ := h
  obtain ⟨h5, rfl⟩ := rdMap_eq h2
  obtain ⟨hg, hck, hfk⟩ := aFind_eq h3
  have e := (hk.gr hg).symm
  subst e
  cases hm with
  | ground n hg => cases n <;> simp [ground] at hg
  | @map id b β S hmu =>
    obtain ⟨es', e1, rfl, e2⟩ := hS.map h5 hmu
    have g1 := run_getObj (P := P) e1 (by intro c e f; simp)
    rcases hfk e2 with ⟨rfl, hf'⟩ | ⟨i, v1, v2, rfl, hf', _⟩
    · simp only [wr_eq, St.look_ro] at h4
      obtain ⟨hl, hro, rfl⟩ := h4
      refine ⟨⟨μ, _, ?_, MExt.refl _ _ _, Sim.putObj (A := A.look r) hS hl hro h5 hmu e1 (o2' := .map (es'.push { key := k, val := v', born := clock }) (clock + 1)) ⟨_, rfl, rfl, ?_⟩⟩, rfl, rfl⟩
      · have q2 := run_setObj (P := P) (o' := .map (es'.push { key := k, val := v', born := clock }) (clock + 1)) e1 (by intro c e f; simp)
        unfold Instr.mapUpdate
        simp only [Sem.run_bind, run_underlying hu, Result.andThen_ok, g1, hck, hf', q2]
      · have := e2.push hg hv clock
        simpa using this
    · simp only at h4
      split at h4
      case isFalse => simp [fail_eq] at h4
      rename_i hsk
      simp only [wr_eq, St.look_ro] at h4
      obtain ⟨hl, hro, rfl⟩ := h4
      refine ⟨⟨μ, _, ?_, MExt.refl _ _ _, Sim.putObj (A := A.look r) hS hl hro h5 hmu e1 (o2' := .map (es'.modify i fun e => { e with key := k, val := v' }) clock) ⟨_, rfl, rfl, ?_⟩⟩, rfl, rfl⟩
      · have q2 := run_setObj (P := P) (o' := .map (es'.modify i fun e => { e with key := k, val := v' }) clock) e1 (by intro c e f; simp)
        have hst := sameKey_stay (P := P) hsk e2 w
        unfold Instr.mapUpdate
        simp only [Sem.run_bind, run_underlying hu, Result.andThen_ok, g1, hck, hf', hst, q2]
      · have := e2.modify hg hv i
        simpa using this

theorem tup3 {a a' b b' : Value} (ha : VRel μ a a') (hb : VRel μ b b') (c : Bool) : VRel μ (.tuple #[.bool c, a, b]) (.tuple #[.bool c, a', b']) := by
  have : LR μ [.bool c, a, b] [.bool c, a', b'] := .cons (.ground 1 rfl) (.cons ha (.cons hb .nil))
  exact .tuple rfl fun i => by rw [arr_getD, arr_getD]; exact this.getD i

theorem tup2 {a a' b b' : Value} (ha : VRel μ a a') (hb : VRel μ b b') : VRel μ (.tuple #[a, b]) (.tuple #[a', b']) := by
  have : LR μ [a, b] [a', b'] := .cons ha (.cons hb .nil)
  exact .tuple rfl fun i => by rw [arr_getD, arr_getD]; exact this.getD i

theorem aMapEntry_good {t : TypeId} {m m' k k' v : Value} {A' : St} (hS : Sim B₀ w₀ A.ro μ A.get w) (h : aMapEntry P t m k A = some (v, A')) (hm : VRel μ m m') (hk : VRel μ k k') :
    Good P B₀ w₀ μ A A' (Instr.mapEntry t m' k') w v := by
  unfold aMapEntry at h
  cases hu : P.underlying t with
  | none => simp [hu, fail_eq] at h
  | some d =>
  simp only [hu] at h
  cases d <;> try (simp [fail_eq] at h; done)
  rename_i kt et
  cases m <;> try (simp [fail_eq] at h; done)
  rename_i r
  cases r with
  | none => simp [fail_eq] at h
  | some r =>
  simp only [bind_eq, opt_eq] at h
  obtain ⟨⟨es, clock⟩, B2, h2, r1, B3, ⟨h3, rfl⟩, h4⟩ := h
  obtain ⟨h5, rfl⟩ := rdMap_eq h2
  obtain ⟨hg, hck, hfk⟩ := aFind_eq h3
  have e := (hk.gr hg).symm
  subst e
  cases hm with
  | ground n hg => cases n <;> simp [ground] at hg
  | @map id b β S hmu =>
    obtain ⟨es', e1, rfl, e2⟩ := hS.map h5 hmu
    have g1 := run_getObj (P := P) e1 (by intro c e f; simp)
    rcases hfk e2 with ⟨rfl, hf'⟩ | ⟨i, v1, v2, rfl, hf', hv⟩
    · simp only [bind_eq, opt_eq, wr_eq, St.look_ro, ret_eq, Prod.mk.injEq] at h4
      obtain ⟨z, B4, ⟨hz, rfl⟩, u, B5, ⟨hl, hro, rfl⟩, rfl, rfl⟩ := h4
      obtain ⟨_, _, _, hgz⟩ := tzero_info hz
      have hzr : VRel μ z z := .of_gr hgz
      refine ⟨μ, _, _, ?_, MExt.refl _ _ _, Sim.putObj (A := A.look r) hS hl hro h5 hmu e1 (o2' := .map (es'.push { key := k, val := z, born := clock }) (clock + 1)) ⟨_, rfl, rfl, ?_⟩, tup2 hzr (.ground 1 rfl)⟩
      · have q2 := run_setObj (P := P) (o' := .map (es'.push { key := k, val := z, born := clock }) (clock + 1)) e1 (by intro c e f; simp)
        unfold Instr.mapEntry
        simp only [Sem.run_bind, run_underlying hu, Result.andThen_ok, g1, hck, hf', run_zeroValue hz, q2, Sem.run_pure]
      · have := e2.push hg hzr clock
        simpa using this
    · simp only at h4
      split at h4
      case isFalse => simp [fail_eq] at h4
      rename_i hsk
      simp only [bind_eq, opt_eq, wr_eq, St.look_ro, ret_eq, Prod.mk.injEq] at h4
      obtain ⟨e0, B4, ⟨he0, rfl⟩, u, B5, ⟨hl, hro, rfl⟩, rfl, rfl⟩ := h4
      obtain ⟨e0', he0', hkey0, hborn0, _, _⟩ := e2.get? (i := i) (e := e0) (by simpa using he0)
      have he0' : es'[i]? = some e0' := by simpa using he0'
      refine ⟨μ, _, _, ?_, MExt.refl _ _ _, Sim.putObj (A := A.look r) hS hl hro h5 hmu e1 (o2' := .map (es'.modify i fun e => { e with key := k }) clock) ⟨_, rfl, rfl, ?_⟩, tup2 hv (.ground 1 rfl)⟩
      · have q2 := run_setObj (P := P) (o' := .map (es'.modify i fun e => { e with key := k }) clock) e1 (by intro c e f; simp)
        have hst := sameKey_stay (P := P) hsk e2 w
        rw [he0', Option.map_some, Option.getD_some] at hst
        unfold Instr.mapEntry
        simp only [Sem.run_bind, run_underlying hu, Result.andThen_ok, g1, hck, hf', he0', Option.map_some, Option.getD_some, hst, q2, Sem.run_pure, hborn0]
      · have := e2.modifyKey hg i
        simpa using this

theorem find_born {es es' : List MapEntry} (h : ER μ es es') (p : Nat → Bool) : (es.findIdx? fun e => p e.born) = (es'.findIdx? fun e => p e.born) := by
  induction h with
  | nil => rfl
  | cons hk hg hb hv _ ih => rw [List.findIdx?_cons, List.findIdx?_cons, hb, ih]

theorem aEntryStore_good {mt : TypeId} {m m' s s' v v' : Value} {A' : St} {u : Unit} (hS : Sim B₀ w₀ A.ro μ A.get w) (h : aEntryStore m s v A = some (u, A')) (hm : VRel μ m m') (hs : VRel μ s s') (hv : VRel μ v v') :
    GoodU P B₀ w₀ μ A A' (Instr.entryStore mt m' s' v') w ∧ A'.next = A.next ∧ A'.ro = A.ro := by
  unfold aEntryStore at h
  cases m <;> try (simp [fail_eq] at h; done)
  rename_i r
  cases r with
  | none => simp [fail_eq] at h
  | some r =>
  cases s <;> try (simp [fail_eq] at h; done)
  rename_i ik born
  have e := hs.same 1 rfl
  subst e
  simp only [bind_eq, opt_eq] at h
  obtain ⟨⟨es, clock⟩, B2, h2, i, B3, ⟨h3, rfl⟩, h4⟩ := h
  obtain ⟨h5, rfl⟩ := rdMap_eq h2
  simp only [wr_eq, St.look_ro] at h4
  obtain ⟨hl, hro, rfl⟩ := h4
  cases hm with
  | ground n hg => cases n <;> simp [ground] at hg
  | @map id b β S hmu =>
    obtain ⟨es', e1, rfl, e2⟩ := hS.map h5 hmu
    have g1 := run_getObj (P := P) e1 (by intro c e f; simp)
    have hfi : es'.findIdx? (fun e => (e.born : Int) == born) = some i := by
      have ha : ∀ (x : Array MapEntry) (p : MapEntry → Bool), x.findIdx? p = x.toList.findIdx? p := fun x p => by cases x; simp
      rw [ha] at h3 ⊢
      rw [← find_born e2 (fun n => (n : Int) == born)]
      exact h3
    refine ⟨⟨μ, _, ?_, MExt.refl _ _ _, Sim.putObj (A := A.look r) hS hl hro h5 hmu e1 (o2' := .map (es'.modify i fun e => { e with val := v' }) clock) ⟨_, rfl, rfl, ?_⟩⟩, rfl, rfl⟩
    · have q2 := run_setObj (P := P) (o' := .map (es'.modify i fun e => { e with val := v' }) clock) e1 (by intro c e f; simp)
      unfold Instr.entryStore
      simp only [Sem.run_bind, Result.andThen_ok, g1, asInt, asIntOf, Sem.run_pure, hfi, q2]
    · have := e2.modifyVal hv i
      simpa using this

theorem ER.filter {es es' : List MapEntry} (h : ER μ es es') (p : Nat → Bool) : ER μ (es.filter fun e => p e.born) (es'.filter fun e => p e.born) := by
  induction h with
  | nil => exact .nil
  | cons hk hg hb hv _ ih =>
    rw [List.filter_cons, List.filter_cons, hb]
    split
    · exact .cons hk hg hb hv ih
    · exact ih

theorem ER.all {es es' : List MapEntry} (h : ER μ es es') (p : Nat → Bool) : (es.all fun e => p e.born) = (es'.all fun e => p e.born) := by
  induction h with
  | nil => rfl
  | cons hk hg hb hv _ ih => rw [List.all_cons, List.all_cons, hb, ih]

theorem run_choose_one {q : Question} (h : q.forced = true) (w : World) : (choose q).run P w = .ok 0 w := by
  rw [run_choose, if_pos h]

theorem aNext_good {it it' v : Value} {isString : Bool} {ty : TypeId} {A' : St} (hS : Sim B₀ w₀ A.ro μ A.get w) (h : aNext it isString A = some (v, A')) (hi : VRel μ it it') :
    Good P B₀ w₀ μ A A' (Instr.next it' isString ty) w v := by
  unfold aNext at h
  split at h
  · rename_i r
    simp only [bind_eq, rd_eq] at h
    obtain ⟨o, B1, ⟨h1, rfl⟩, h2⟩ := h
    cases hi with
    | ground n hg => cases n <;> simp [ground] at hg
    | @ptr id off b β S hmu =>
      obtain ⟨o', e1, e2⟩ := hS.at h1 hmu
      split at h2
      · -- a string
        rename_i s pos
        obtain ⟨rfl, rfl⟩ := e2
        have g1 := run_getObj (P := P) e1 (by intro c e f; simp)
        split at h2
        · rename_i hlt
          simp only [bind_eq, wr_eq, St.look_ro, ret_eq, Prod.mk.injEq] at h2
          obtain ⟨u, B2, ⟨hl, hro, rfl⟩, rfl, rfl⟩ := h2
          refine ⟨μ, _, .tuple #[.bool true, goInt pos, .int .i32 (Utf8.decode s pos).1], ?_, MExt.refl _ _ _, Sim.putObj (A := A.look r) hS hl hro h1 hmu e1 (o2' := .stringIter s (pos + (Utf8.decode s pos).2)) ⟨rfl, rfl⟩, .ground 8 rfl⟩
          have q2 := run_setObj (P := P) (o' := .stringIter s (pos + (Utf8.decode s pos).2)) e1 (by intro c e f; simp)
          simp only [Instr.next, Sem.run_bind, g1, Result.andThen_ok, hlt, if_true, q2, Sem.run_pure]
        · rename_i hlt
          simp only [ret_eq, Prod.mk.injEq] at h2
          obtain ⟨rfl, rfl⟩ := h2
          refine Good.quiet hS rfl (v' := .tuple #[.bool false]) ?_ (.ground 8 rfl)
          simp only [Instr.next, Sem.run_bind, g1, Result.andThen_ok, hlt, if_false, Sem.run_pure]
      · rename_i since seen last
        obtain ⟨m', rfl, rfl, e3⟩ := e2
        have hm' : m' = none := by
          rcases e3 with ⟨_, h⟩ | ⟨_, _, _, _, h, _⟩
          · exact h
          · cases h
        subst hm'
        have g1 := run_getObj (P := P) e1 (by intro c e f; simp)
        simp only [ret_eq, Prod.mk.injEq] at h2
        obtain ⟨rfl, rfl⟩ := h2
        refine Good.quiet hS rfl (v' := .tuple #[.bool false]) ?_ (.ground 8 rfl)
        simp only [Instr.next, Sem.run_bind, g1, Result.andThen_ok, Sem.run_pure]
      · rename_i m since seen last
        obtain ⟨m', rfl, rfl, e3⟩ := e2
        simp only [bind_eq] at h2
        obtain ⟨⟨es, clock⟩, B2, h3, h4⟩ := h2
        obtain ⟨h5, rfl⟩ := rdMap_eq h3
        have hmm : ∃ bm βm Sm, m' = some bm ∧ μ m = some (bm, βm, Sm) := by
          rcases e3 with ⟨h, _⟩ | ⟨id2, b2, β2, S2, h, h', h''⟩
          · cases h
          · cases h; exact ⟨b2, β2, S2, h', h''⟩
        obtain ⟨bm, βm, Sm, rfl, hmu2⟩ := hmm
        have hSl : Sim B₀ w₀ (A.look r).ro μ (A.look r).get w := hS
        obtain ⟨es', e4, rfl, e5⟩ := hSl.map h5 hmu2
        have g1 := run_getObj (P := P) e1 (by intro c e f; simp)
        have g2 := run_getObj (P := P) e4 (by intro c e f; simp)
        have hemp : es.isEmpty = es'.isEmpty := by
          have := e5.length
          simp only [Array.length_toList] at this
          show decide (es.size = 0) = decide (es'.size = 0)
          rw [this]
        have hall : es.all (fun e => decide (e.born ≥ last)) = es'.all (fun e => decide (e.born ≥ last)) := by
          have := e5.all (fun n => decide (n ≥ last))
          simpa using this
        split at h4
        · simp [fail_eq] at h4
        · rename_i hc
          have hc' : (!seen.isEmpty && !es'.isEmpty && es'.all (fun e => decide (e.born ≥ last))) = false := by
            rw [← hemp, ← hall]
            simpa using hc
          have hq : ∀ n, n ≤ 1 → (choose (.mapNext n)).run P w = .ok 0 w := fun n hn => run_choose_one (by simp [Question.forced, hn]) w
          have hfil := e5.filter (fun n => !seen.contains n)
          have hleft : (es'.filter fun e => !seen.contains e.born).toList = es'.toList.filter fun e => !seen.contains e.born := by simp
          cases hnil : es.toList.filter (fun e => !seen.contains e.born) with
          | nil =>
            rw [hnil] at h4
            simp only [ret_eq, Prod.mk.injEq] at h4
            obtain ⟨rfl, rfl⟩ := h4
            rw [hnil] at hfil
            have hl0 : es'.filter (fun e => !seen.contains e.born) = #[] := by
              apply Array.ext'
              rw [hleft]
              generalize List.filter (fun e => !seen.contains e.born) es'.toList = x at hfil
              cases hfil
              rfl
            refine Good.quiet hS rfl (v' := .tuple #[.bool false]) ?_ (.ground 8 rfl)
            unfold Instr.next
            simp only [Sem.run_bind, g1, g2, Result.andThen_ok, hc', Bool.false_eq_true, if_false, hl0]
            have f1 : ∀ p, (#[] : Array MapEntry).filter p = #[] := fun p => by simp
            have c1 : (if (#[] : Array MapEntry).isEmpty = true then #[none] else #[]) ++ Array.map some ((#[] : Array MapEntry) ++ #[]) = (#[none] : Array (Option MapEntry)) := by simp
            simp only [f1, c1]
            rw [hq _ (by simp)]
            simp
          | cons e tl =>
          cases tl with
          | cons e2 tl => rw [hnil] at h4; simp [fail_eq] at h4
          | nil =>
            rw [hnil] at hfil h4
            simp only at h4
            have hl1 : ∃ e', es'.filter (fun e => !seen.contains e.born) = #[e'] ∧ e'.key = e.key ∧ e'.born = e.born ∧ VRel μ e.val e'.val ∧ Det.gr e.key = true := by
              generalize hx : List.filter (fun e => !seen.contains e.born) es'.toList = x at hfil
              cases hfil with
              | @cons _ e' _ es'' hk hg hb hv hn =>
                cases hn
                refine ⟨e', ?_, hk, hb, hv, hg⟩
                apply Array.ext'
                rw [hleft, hx]
            obtain ⟨e', hl1, hk, hb, hv, hg⟩ := hl1
            split at h4
            · rename_i hlt
              simp only [bind_eq, wr_eq, St.look_ro, ret_eq, Prod.mk.injEq] at h4
              obtain ⟨u, B3, ⟨hl, hro, rfl⟩, rfl, rfl⟩ := h4
              refine ⟨μ, _, .tuple #[.bool true, e'.key, e'.val], ?_, MExt.refl _ _ _, Sim.putObj (A := (A.look r).look m) hS hl hro h1 hmu e1 (o2' := .mapIter (some bm) since (seen.push e.born) clock) ⟨_, rfl, rfl, .inr ⟨m, bm, _, _, rfl, rfl, hmu2⟩⟩, ?_⟩
              · have q2 := run_setObj (P := P) (o' := .mapIter (some bm) since (seen.push e.born) clock) e1 (by intro c e f; simp)
                have hlt' : e'.born < since := by omega
                have hge' : ¬ e'.born ≥ since := by omega
                have f1 : (#[e'] : Array MapEntry).filter (fun e => decide (e.born < since)) = #[e'] := by simp [hlt']
                have f2 : (#[e'] : Array MapEntry).filter (fun e => decide (e.born ≥ since)) = #[] := by
                  apply Array.ext'
                  simp only [Array.toList_filter, List.filter_cons, decide_eq_false hge', Bool.false_eq_true, if_false, List.filter_nil]
                unfold Instr.next
                simp only [Sem.run_bind, g1, g2, Result.andThen_ok, hc', Bool.false_eq_true, if_false, hl1, f1, f2]
                have c2 : (if (#[e'] : Array MapEntry).isEmpty = true then #[none] else #[]) ++ Array.map some ((#[e'] : Array MapEntry) ++ #[]) = (#[some e'] : Array (Option MapEntry)) := by simp
                simp only [c2]
                rw [hq _ (by simp)]
                simp only [Result.andThen_ok]
                have c3 : (#[some e'] : Array (Option MapEntry))[0]? = some (some e') := rfl
                rw [c3]
                simp only [Sem.run_bind, q2, Result.andThen_ok, Sem.run_pure, hb]
              · rw [hk]
                exact tup3 (.of_gr hg) hv true
            · simp [fail_eq] at h4
      · simp [fail_eq] at h2
  · simp [fail_eq] at h

theorem Sim.obj {o o' : Obj} {id : Nat} {A' : St} {S : Nat} (hS : Sim B₀ w₀ A.ro μ A.get w) (h : al o A = some (id, A')) (hf : Free μ A.next A'.next)
    (hm : ∀ μ', MLe μ μ' → OMatch μ' 0 S o o') : id = A.next ∧ A'.next = A.next + 1 ∧ A'.ro = A.ro ∧ MExt μ (μ.add A.next (w.heap.size, 0, S)) A.next A'.next ∧
      Sim B₀ w₀ A.ro (μ.add A.next (w.heap.size, 0, S)) A'.get { w with heap := w.heap.push o' } := by
  obtain ⟨hl, _, rfl, rfl⟩ := al_eq.1 h
  have hfree := hf A.next (Nat.le_refl _) (by simp)
  exact ⟨rfl, rfl, rfl, Mu.add_ext hfree, hS.alloc hl hfree (hm _ (Mu.add_le hfree))⟩

theorem aRange_good {t : TypeId} {x x' v : Value} {A' : St} (hS : Sim B₀ w₀ A.ro μ A.get w) (h : aRange P t x A = some (v, A')) (hf : Free μ A.next A'.next) (hx : VRel μ x x') :
    Good P B₀ w₀ μ A A' (Instr.range t x') w v := by
  unfold aRange at h
  have ptr0 : ∀ p, VRel (μ.add A.next (w.heap.size, 0, p)) (.pointer (some ⟨A.next, 0, none⟩)) (.pointer (some ⟨w.heap.size, 0, none⟩)) := by
    intro p
    have := VRel.ptr (off := 0) (Mu.add_self μ A.next (w.heap.size, 0, p))
    simpa using this
  cases hu : P.underlying t with
  | none => simp [hu, fail_eq] at h
  | some d =>
  simp only [hu] at h
  cases d <;> cases x <;> try (simp [fail_eq] at h; done)
  · rename_i s
    simp only [bind_eq, ret_eq, Prod.mk.injEq] at h
    obtain ⟨id, B, h1, rfl, rfl⟩ := h
    have e := hx.same 1 rfl
    subst e
    obtain ⟨rfl, g1, g2, g3, g4⟩ := Sim.obj (S := 0) (o' := .stringIter s 0) hS h1 hf (fun _ _ => ⟨rfl, rfl⟩)
    refine ⟨_, _, _, ?_, g3, g4, ptr0 0⟩
    simp only [Instr.range, Sem.run_bind, run_underlying hu, Result.andThen_ok, Sem.run_pure, run_newObj]
  · rename_i kt et m
    cases m with
    | none =>
      simp only [bind_eq, ret_eq, Prod.mk.injEq] at h
      obtain ⟨id, B, h1, rfl, rfl⟩ := h
      have e := hx.same 1 rfl
      subst e
      obtain ⟨rfl, g1, g2, g3, g4⟩ := Sim.obj (S := 0) (o' := .mapIter none 0 #[] 0) hS h1 hf (fun _ _ => ⟨none, rfl, rfl, .inl ⟨rfl, rfl⟩⟩)
      refine ⟨_, _, _, ?_, g3, g4, ptr0 0⟩
      simp only [Instr.range, Sem.run_bind, run_underlying hu, Result.andThen_ok, Sem.run_pure, run_newObj]
    | some m =>
      simp only [bind_eq, ret_eq, Prod.mk.injEq] at h
      obtain ⟨⟨es, clock⟩, B1, h0, id, B, h1, rfl, rfl⟩ := h
      obtain ⟨h5, rfl⟩ := rdMap_eq h0
      cases hx with
      | ground n hg => cases n <;> simp [ground] at hg
      | @map id2 b β S hmu =>
        obtain ⟨es', e4, rfl, e5⟩ := hS.map h5 hmu
        have hSl : Sim B₀ w₀ (A.look m).ro μ (A.look m).get w := hS
        obtain ⟨rfl, g1, g2, g3, g4⟩ := Sim.obj (S := 0) (o' := .mapIter (some b) clock #[] clock) hSl h1 hf (fun μ' hle => ⟨some b, rfl, rfl, .inr ⟨m, b, _, _, rfl, rfl, hle _ _ hmu⟩⟩)
        refine ⟨_, _, _, ?_, g3, g4, ptr0 0⟩
        simp only [Instr.range, Sem.run_bind, run_underlying hu, Result.andThen_ok, run_getObj (P := P) e4 (by intro c e f; simp), Sem.run_pure, run_newObj]

theorem find_ER {es es' : List MapEntry} (h : ER μ es es') (p : Nat → Bool) {e : MapEntry} (he : (es.find? fun e => p e.born) = some e) :
    ∃ e', (es'.find? fun e => p e.born) = some e' ∧ e'.key = e.key ∧ VRel μ e.val e'.val ∧ Det.gr e.key = true := by
  induction h with
  | nil => simp at he
  | cons hk hg hb hv _ ih =>
    rename_i e0 e0' es es' _
    cases hp : p e0.born with
    | true =>
      rw [List.find?_cons_of_pos (by simpa using hp)] at he
      rw [List.find?_cons_of_pos (by rw [hb]; simpa using hp)]
      cases he
      exact ⟨_, rfl, hk, hv, hg⟩
    | false =>
      rw [List.find?_cons_of_neg (by simp [hp])] at he
      rw [List.find?_cons_of_neg (by simp [hb, hp])]
      exact ih he

theorem aEntry_good {it it' v : Value} {A' : St} (hS : Sim B₀ w₀ A.ro μ A.get w) (h : aEntry it A = some (v, A')) (hi : VRel μ it it') : Good P B₀ w₀ μ A A' (Instr.entry it') w v := by
  unfold aEntry at h
  split at h
  · rename_i r
    simp only [bind_eq, rd_eq] at h
    obtain ⟨o, B1, ⟨h1, rfl⟩, h2⟩ := h
    cases hi with
    | ground n hg => cases n <;> simp [ground] at hg
    | @ptr id off b β S hmu =>
      obtain ⟨o', e1, e2⟩ := hS.at h1 hmu
      split at h2
      · rename_i m since seen stepped
        obtain ⟨m', rfl, rfl, e3⟩ := e2
        simp only [bind_eq, opt_eq] at h2
        obtain ⟨stamp, B2, ⟨hst, rfl⟩, ⟨es, clock⟩, B3, h3, h4⟩ := h2
        obtain ⟨h5, rfl⟩ := rdMap_eq h3
        have hmm : ∃ bm βm Sm, m' = some bm ∧ μ m = some (bm, βm, Sm) := by
          rcases e3 with ⟨h, _⟩ | ⟨id2, b2, β2, S2, h, h', h''⟩
          · cases h
          · cases h; exact ⟨b2, β2, S2, h', h''⟩
        obtain ⟨bm, βm, Sm, rfl, hmu2⟩ := hmm
        have hSl : Sim B₀ w₀ (A.look r).ro μ (A.look r).get w := hS
        obtain ⟨es', e4, rfl, e5⟩ := hSl.map h5 hmu2
        have g1 := run_getObj (P := P) e1 (by intro c e f; simp)
        have g2 := run_getObj (P := P) e4 (by intro c e f; simp)
        split at h4
        · simp [fail_eq] at h4
        · rename_i hc
          simp only [bind_eq, opt_eq, ret_eq, Prod.mk.injEq] at h4
          obtain ⟨e, B4, ⟨he, rfl⟩, rfl, rfl⟩ := h4
          have he' : es.toList.find? (fun e => e.born == stamp) = some e := by simpa using he
          obtain ⟨e', f1, f2, f3, f4⟩ := find_ER e5 (fun n => n == stamp) he'
          have f1' : es'.find? (fun e => e.born == stamp) = some e' := by simpa using f1
          refine Good.quiet hS rfl (v' := .tuple #[e'.key, e'.val]) ?_ ?_
          · have hc' : (clock != stepped) = false := by simpa using hc
            simp only [Instr.entry, Sem.run_bind, g1, Result.andThen_ok, hst, g2, hc', Bool.false_eq_true, if_false, f1', Sem.run_pure]
          · rw [f2]
            exact tup2 (.of_gr f4) f3
      · simp [fail_eq] at h2
  · simp [fail_eq] at h

theorem aClone_good {args args' : Array Value} {v : Value} {A' : St} (hS : Sim B₀ w₀ A.ro μ A.get w) (h : aClone args A = some (v, A')) (hf : Free μ A.next A'.next) (ha : LR μ args.toList args'.toList) :
    Good P B₀ w₀ μ A A' (Extern.MapsClone.clone args') w v := by
  unfold aClone at h
  generalize args.toList = l at h ha
  split at h
  · rename_i t r
    have hargs : ∃ x', args' = #[x'] ∧ VRel μ (.iface t (.map (some r))) x' := by
      have : LR μ [.iface t (.map (some r))] args'.toList := ha
      generalize hl : args'.toList = l at this
      cases this with
      | cons hv hn =>
        cases hn
        exact ⟨_, Array.ext' (by simpa using hl), hv⟩
    obtain ⟨x', rfl, hx⟩ := hargs
    simp only [bind_eq, ret_eq, Prod.mk.injEq] at h
    obtain ⟨⟨es, clock⟩, B1, h0, id, B, h1, rfl, rfl⟩ := h
    obtain ⟨h5, rfl⟩ := rdMap_eq h0
    have hmap : ∃ b β S, x' = .iface t (.map (some b)) ∧ μ r = some (b, β, S) := by
      cases hx with
      | ground n hg =>
        cases n with
        | zero => simp [ground] at hg
        | succ n => cases n <;> simp [ground] at hg
      | iface hm =>
        cases hm with
        | ground n hg => cases n <;> simp [ground] at hg
        | @map id b β S hmu => exact ⟨b, β, S, rfl, hmu⟩
    obtain ⟨b, β, S, rfl, hmu⟩ := hmap
    obtain ⟨es', e4, rfl, e5⟩ := hS.map h5 hmu
    have hSl : Sim B₀ w₀ (A.look r).ro μ (A.look r).get w := hS
    obtain ⟨rfl, g1, g2, g3, g4⟩ := Sim.obj (S := 0) (o' := .map es' clock) hSl h1 hf (fun μ' hle => ⟨es', rfl, rfl, e5.mono hle⟩)
    refine ⟨_, _, .iface t (.map (some w.heap.size)), ?_, g3, g4, .iface (.map (Mu.add_self _ _ _))⟩
    have hcl : Extern.MapsClone.clone #[.iface t (.map (some b))] = (getObj b >>= fun o => match o with
        | .map entries clock => newObj (.map entries clock) >>= fun r => pure (.iface t (.map (some r)))
        | _ => stuck "maps.clone: a map expected") := rfl
    rw [hcl]
    simp only [Sem.run_bind, run_getObj (P := P) e4 (by intro c e f; simp), Result.andThen_ok, run_newObj, Sem.run_pure]
  · simp [fail_eq] at h

end
end Go.Det
