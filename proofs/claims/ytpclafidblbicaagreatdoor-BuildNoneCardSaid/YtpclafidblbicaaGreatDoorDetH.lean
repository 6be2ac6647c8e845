/- The evaluator: every operation. -/
import Derived.Test.YtpclafidblbicaaGreatDoorDetG
import Derived.Calls
import Derived.Laws.Strings
namespace Go.Det
open Go.RowKit (Below)

section
variable {P : Program} {B₀ : Nat} {w₀ : World} {μ : Mu} {A : St} {w : World}

theorem Good.pureV {A' : St} {s : Sem Value} {v : Value} (hS : Sim B₀ w₀ A.ro μ A.get w) (h : M.opt (pureV P s) A = some (v, A')) : Good P B₀ w₀ μ A A' s w v := by
  rw [opt_eq] at h
  obtain ⟨h, rfl⟩ := h
  obtain ⟨h1, h2⟩ := pureV_run h
  exact Good.quiet hS rfl (h1 w) (.of_gr h2)

theorem VRel.agg_inv {xs : Array Value} {v' : Value} (h : VRel μ (.agg xs) v') : ∃ ys, v' = .agg ys ∧ LR μ xs.toList ys.toList := by
  cases h with
  | ground n hg =>
    cases n with
    | zero => simp [Det.ground] at hg
    | succ n => exact ⟨xs, rfl, LR.refl_ground n (by simpa [Det.ground] using hg)⟩
  | agg hs h => exact ⟨_, rfl, LR.of_arr hs h⟩

theorem VRel.tuple_inv {xs : Array Value} {v' : Value} (h : VRel μ (.tuple xs) v') : ∃ ys, v' = .tuple ys ∧ LR μ xs.toList ys.toList := by
  cases h with
  | ground n hg =>
    cases n with
    | zero => simp [Det.ground] at hg
    | succ n => exact ⟨xs, rfl, LR.refl_ground n (by simpa [Det.ground] using hg)⟩
  | tuple hs h => exact ⟨_, rfl, LR.of_arr hs h⟩

theorem VRel.func_inv {fn : Fn} {f c : Array Value} {v' : Value} (h : VRel μ (.func fn f c) v') : ∃ f' c', v' = .func fn f' c' ∧ LR μ f.toList f'.toList ∧ LR μ c.toList c'.toList := by
  cases h with
  | ground n hg =>
    cases n with
    | zero => simp [Det.ground] at hg
    | succ n =>
      simp only [Det.ground, Bool.and_eq_true] at hg
      exact ⟨f, c, rfl, LR.refl_ground n hg.1, LR.refl_ground n hg.2⟩
  | func hf hf' hc hc' => exact ⟨_, _, rfl, LR.of_arr hf hf', LR.of_arr hc hc'⟩

theorem VRel.iface_inv {t : TypeId} {v v' : Value} (h : VRel μ (.iface t v) v') : ∃ u, v' = .iface t u ∧ VRel μ v u := by
  cases h with
  | ground n hg =>
    cases n with
    | zero => simp [Det.ground] at hg
    | succ n => exact ⟨v, rfl, .ground n (by simpa [Det.ground] using hg)⟩
  | iface h => exact ⟨_, rfl, h⟩

theorem aPart_good {t : TypeId} {cs cs' : Array Value} {off : Nat} {v : Value} (h : aPart P t cs off = some v) (hc : LR μ cs.toList cs'.toList) (w : World) :
    ∃ v', (part t cs' off).run P w = .ok v' w ∧ VRel μ v v' := by
  unfold aPart at h
  cases ht : tagg P t with
  | none => rw [ht] at h; cases h
  | some b =>
    rw [ht] at h
    cases b with
    | true =>
      simp only at h
      cases hs : tsize P t with
      | none => rw [hs] at h; cases h
      | some n =>
        rw [hs] at h
        simp only [Option.some.injEq] at h
        subst h
        refine ⟨.agg (cs'.extract off (off + n)), ?_, ?_⟩
        · simp only [part, Sem.run_bind, run_isAgg ht, Result.andThen_ok, if_true, run_sizeOf hs, Sem.run_pure]
        · have : LR μ (cs.extract off (off + n)).toList (cs'.extract off (off + n)).toList := by
            rw [Array.toList_extract, Array.toList_extract]
            simp only [List.extract]
            exact (hc.drop _).take _
          exact .agg (LR.arr this).1 (LR.arr this).2
    | false =>
      simp only at h
      obtain ⟨v', h1, h2⟩ := hc.arr? h
      refine ⟨v', ?_, h2⟩
      simp only [part, Sem.run_bind, run_isAgg ht, Result.andThen_ok, Bool.false_eq_true, if_false, h1, Sem.run_pure]

theorem aIndex_good {t : TypeId} {x x' ix ix' v : Value} (h : aIndex P t x ix = some v) (hx : VRel μ x x') (hi : VRel μ ix ix') (w : World) : ∃ v', (Instr.index t x' ix').run P w = .ok v' w ∧ VRel μ v v' := by
  unfold aIndex at h
  cases ix <;> try (simp at h; done)
  rename_i k i
  have e := (hi.same 1 rfl).symm
  subst e
  simp only at h
  cases hu : P.underlying t with
  | none => rw [hu] at h; cases h
  | some d =>
  rw [hu] at h
  cases d <;> cases x <;> try (simp at h; done)
  · rename_i s
    have e := (hx.same 1 rfl).symm
    subst e
    simp only at h
    split at h
    · rename_i h0
      cases hb : s.data.toList[i.toNat]? with
      | none => rw [hb] at h; cases h
      | some b =>
        rw [hb] at h
        simp only [Option.some.injEq] at h
        subst h
        refine ⟨_, ?_, .ground 1 rfl⟩
        have hs : s[i.toNat]? = some b := by
          have hlt : i.toNat < s.data.toList.length := by
            rcases Nat.lt_or_ge i.toNat s.data.toList.length with hh | hh
            · exact hh
            · rw [List.getElem?_eq_none hh] at hb; cases hb
          rw [List.getElem?_eq_getElem hlt] at hb
          rw [getElem?_pos s i.toNat hlt]
          have e2 : s[i.toNat]'hlt = s.data[i.toNat]'(by simpa using hlt) := rfl
          rw [e2]
          simpa using hb
        simp only [Instr.index, Sem.run_bind, asIntOf, Sem.run_pure, Result.andThen_ok, run_underlying hu, h0, if_true, hs]
    · cases h
  · rename_i len elem cs
    simp only at h
    obtain ⟨ys, rfl, hl⟩ := hx.agg_inv
    split at h
    · rename_i hc
      cases hs : tsize P elem with
      | none => rw [hs] at h; cases h
      | some n =>
        rw [hs] at h
        obtain ⟨v', h1, h2⟩ := aPart_good (P := P) h hl w
        refine ⟨v', ?_, h2⟩
        simp only [Instr.index, Sem.run_bind, asIntOf, Sem.run_pure, Result.andThen_ok, run_underlying hu, hc, and_self, if_true, run_sizeOf hs, h1]
    · cases h

theorem aTypeAssert_good {x x' v : Value} {xt asserted : TypeId} {ok : Bool} (h : aTypeAssert P x asserted ok = some v) (hx : VRel μ x x') (w : World) :
    ∃ v', (Instr.typeAssert x' xt asserted ok).run P w = .ok v' w ∧ VRel μ v v' := by
  unfold aTypeAssert at h
  cases hu : P.underlying asserted with
  | none => rw [hu] at h; cases h
  | some d =>
  rw [hu] at h
  cases x <;> try (cases d <;> simp at h; done)
  rename_i t u
  have hni : ∀ ms, d ≠ .interface ms := by cases d <;> first | (simp at h; done) | (intro ms; simp)
  have h : (if t = asserted then some (if ok then .tuple #[u, .bool true] else u)
      else if ok then (tzero P asserted).map fun z => .tuple #[z, .bool false] else none) = some v := by cases d <;> first | exact absurd rfl (hni _) | exact h
  obtain ⟨u', rfl, hu'⟩ := hx.iface_inv
  split at h
  · rename_i ht
    simp only [Option.some.injEq] at h
    subst h
    refine ⟨if ok then .tuple #[u', .bool true] else u', ?_, ?_⟩
    · cases d <;> first | exact absurd rfl (hni _) | (simp only [Instr.typeAssert, Sem.run_bind, run_underlying hu, Result.andThen_ok, ht, if_true, Sem.run_pure])
    · cases ok
      · exact hu'
      · exact pairRel hu' true
  · rename_i ht
    split at h
    · rename_i hok
      simp only [Option.map_eq_some_iff] at h
      obtain ⟨z, hz, rfl⟩ := h
      obtain ⟨_, _, _, hg⟩ := tzero_info hz
      refine ⟨.tuple #[z, .bool false], ?_, pairRel (.of_gr hg) false⟩
      cases d <;> first | exact absurd rfl (hni _) | (simp only [Instr.typeAssert, Sem.run_bind, run_underlying hu, Result.andThen_ok, ht, if_false, hok, if_true, run_zeroValue hz, Sem.run_pure])
    · cases h

/-! ### Operators -/
structure EqOk (P : Program) (t : TypeId) (ox oy : Operand) (x y : Value) (b : Bool) (w : World) : Prop where
  guard : ∀ op, (eqGuard op t ox oy x y).run P w = .ok () w
  same : (Op.equal t x y).run P w = .ok b w
  eql : binOp .eql t x y = (do pure (.bool (← Op.equal t x y)))
  neq : binOp .neq t x y = (do pure (.bool (!(← Op.equal t x y))))

theorem equal_unfold (t : TypeId) (x y : Value) : Op.equal t x y = Op.equalIn (9999 + 1) t x y := rfl

theorem aEq_good {t : TypeId} {x x' y y' : Value} {b : Bool} (ox oy : Operand) (h : aEq P t x y = some b) (hx : VRel μ x x') (hy : VRel μ y y') (w : World) : EqOk P t ox oy x' y' b w := by
  have gd : ∀ {x y : Value}, (∀ xs ys, ¬ (x = .agg xs ∧ y = .agg ys)) → ¬ (x = .nilIface ∧ y = .nilIface) → ∀ op, (eqGuard op t ox oy x y).run P w = .ok () w := by
    intro x y h1 h2 op
    unfold eqGuard
    cases op <;> try rfl
    all_goals
      cases x <;> first
        | rfl
        | (cases y <;> first | rfl | exact absurd ⟨rfl, rfl⟩ (h1 _ _) | exact absurd ⟨rfl, rfl⟩ h2)
  unfold aEq at h
  cases hu : P.underlying t with
  | none => rw [hu] at h; cases h
  | some d =>
  rw [hu] at h
  have eqn : ∀ x y : Value, Op.equal t x y = Op.equalIn (9999 + 1) t x y := fun _ _ => rfl
  split at h
  · -- nil pointer
    rename_i e b0 heq
    cases heq
    simp only [Option.some.injEq] at h
    have e1 := (hx.same 1 rfl).symm
    subst e1
    have hy' : ∃ b1, y' = .pointer b1 ∧ b1.isNone = b0.isNone := by
      cases hy with
      | ground n hg => exact ⟨_, rfl, rfl⟩
      | ptr hmu => exact ⟨_, rfl, rfl⟩
    obtain ⟨b1, rfl, hb1⟩ := hy'
    refine ⟨gd (by simp) (by simp), ?_, rfl, rfl⟩
    rw [eqn]
    unfold Op.equalIn
    simp only [Sem.run_bind, run_underlying hu, Result.andThen_ok, Sem.run_pure, hb1, h]
  · rename_i e a heq
    cases heq
    simp only [Option.some.injEq] at h
    subst h
    have e1 := (hy.same 1 rfl).symm
    subst e1
    cases hx with
    | ground n hg => cases n <;> simp [ground] at hg
    | ptr hmu =>
      refine ⟨gd (by simp) (by simp), ?_, rfl, rfl⟩
      rw [eqn]
      unfold Op.equalIn
      simp only [Sem.run_bind, run_underlying hu, Result.andThen_ok, Sem.run_pure]
  · rename_i e a i b0 j heq
    cases heq
    cases hs : tsize P e with
    | none => rw [hs] at h; cases h
    | some n =>
      rw [hs] at h
      simp only at h
      split at h
      · cases h
      · rename_i hn
        split at h
        · rename_i hab
          subst hab
          simp only [Option.some.injEq] at h
          cases hx with
          | ground n hg => cases n <;> simp [ground] at hg
          | @ptr _ _ b1 β1 S1 hmu =>
            cases hy with
            | ground n hg => cases n <;> simp [ground] at hg
            | @ptr _ _ b2 β2 S2 hmu2 =>
              rw [hmu] at hmu2
              cases hmu2
              refine ⟨gd (by simp) (by simp), ?_, rfl, rfl⟩
              rw [eqn]
              unfold Op.equalIn
              have hij : ((⟨b1, β1 + i, none⟩ : Addr) == ⟨b1, β1 + j, none⟩) = (i == j) := by
                cases hb : (i == j) with
                | true => have := eq_of_beq hb; subst this; exact beq_self_eq_true _
                | false =>
                  apply Bool.eq_false_iff.2
                  intro hh
                  have hh := eq_of_beq hh
                  simp only [Addr.mk.injEq, true_and, and_true] at hh
                  have : i = j := by omega
                  subst this
                  simp at hb
              simp only [Sem.run_bind, run_underlying hu, Result.andThen_ok, run_sizeOf hs, ne_eq, hn, not_false_eq_true, if_true, sameAddr, beq_self_eq_true, Sem.run_pure, hij, h]
        · cases h
  · rename_i e len cap b0 l2 c2 heq
    cases heq
    simp only [Option.some.injEq] at h
    have e1 := (hx.same 1 rfl).symm
    subst e1
    have hy' : ∃ b1 l1 c1, y' = .slice b1 l1 c1 ∧ b1.isNone = b0.isNone := by
      cases hy with
      | ground n hg => exact ⟨_, _, _, rfl, rfl⟩
      | slice hmu => exact ⟨_, _, _, rfl, rfl⟩
      | soft hmu _ _ _ => exact ⟨_, _, _, rfl, rfl⟩
    obtain ⟨b1, l1, c1, rfl, hb1⟩ := hy'
    refine ⟨gd (by simp) (by simp), ?_, rfl, rfl⟩
    rw [eqn]
    unfold Op.equalIn
    simp only [Sem.run_bind, run_underlying hu, Result.andThen_ok, Sem.run_pure, hb1, h]
  · rename_i e a l1 c1 l2 c2 heq
    cases heq
    simp only [Option.some.injEq] at h
    subst h
    have e1 := (hy.same 1 rfl).symm
    subst e1
    have hx' : ∃ b1 l1 c1, x' = .slice (some b1) l1 c1 := by
      cases hx with
      | ground n hg => cases n <;> simp [ground] at hg
      | slice hmu => exact ⟨_, _, _, rfl⟩
      | soft hmu _ _ _ => exact ⟨_, _, _, rfl⟩
    obtain ⟨b1, l1, c1, rfl⟩ := hx'
    refine ⟨gd (by simp) (by simp), ?_, rfl, rfl⟩
    rw [eqn]
    unfold Op.equalIn
    simp only [Sem.run_bind, run_underlying hu, Result.andThen_ok, Sem.run_pure]
  · rename_i k e b0 heq
    cases heq
    simp only [Option.some.injEq] at h
    have e1 := (hx.same 1 rfl).symm
    subst e1
    have hy' : ∃ b1, y' = .map b1 ∧ b1.isNone = b0.isNone := by
      cases hy with
      | ground n hg => exact ⟨_, rfl, rfl⟩
      | map hmu => exact ⟨_, rfl, rfl⟩
    obtain ⟨b1, rfl, hb1⟩ := hy'
    refine ⟨gd (by simp) (by simp), ?_, rfl, rfl⟩
    rw [eqn]
    unfold Op.equalIn
    simp only [Sem.run_bind, run_underlying hu, Result.andThen_ok, Sem.run_pure, hb1, h]
  · rename_i k e a heq
    cases heq
    simp only [Option.some.injEq] at h
    subst h
    have e1 := (hy.same 1 rfl).symm
    subst e1
    cases hx with
    | ground n hg => cases n <;> simp [ground] at hg
    | map hmu =>
      refine ⟨gd (by simp) (by simp), ?_, rfl, rfl⟩
      rw [eqn]
      unfold Op.equalIn
      simp only [Sem.run_bind, run_underlying hu, Result.andThen_ok, Sem.run_pure]
  · rename_i e1 e2 e3 heq
    cases heq
    simp only [Option.some.injEq] at h
    subst h
    have e1 := (hx.same 1 rfl).symm
    subst e1
    have e1 := (hy.same 1 rfl).symm
    subst e1
    refine ⟨gd (by simp) (by simp), ?_, rfl, rfl⟩
    rw [eqn]
    unfold Op.equalIn
    simp only [Sem.run_bind, run_underlying hu, Result.andThen_ok, Sem.run_pure]
  · rename_i e1 e2 e3 f1 f2 f3 heq
    cases heq
    simp only [Option.some.injEq] at h
    subst h
    have e1 := (hx.same 1 rfl).symm
    subst e1
    obtain ⟨_, _, rfl, _, _⟩ := hy.func_inv
    refine ⟨gd (by simp) (by simp), ?_, rfl, rfl⟩
    rw [eqn]
    unfold Op.equalIn
    simp only [Sem.run_bind, run_underlying hu, Result.andThen_ok, Sem.run_pure]
  · rename_i e1 e2 e3 f1 f2 f3 heq
    cases heq
    simp only [Option.some.injEq] at h
    subst h
    have e1 := (hy.same 1 rfl).symm
    subst e1
    obtain ⟨_, _, rfl, _, _⟩ := hx.func_inv
    refine ⟨gd (by simp) (by simp), ?_, rfl, rfl⟩
    rw [eqn]
    unfold Op.equalIn
    simp only [Sem.run_bind, run_underlying hu, Result.andThen_ok, Sem.run_pure]
  · rename_i e1 e2 e3 heq
    cases heq
    simp only [Option.some.injEq] at h
    subst h
    have e1 := (hx.same 1 rfl).symm
    subst e1
    obtain ⟨_, rfl, _⟩ := hy.iface_inv
    refine ⟨gd (by simp) (by simp), ?_, rfl, rfl⟩
    rw [eqn]
    unfold Op.equalIn
    simp only [Sem.run_bind, run_underlying hu, Result.andThen_ok, Sem.run_pure]
  · rename_i e1 e2 e3 heq
    cases heq
    simp only [Option.some.injEq] at h
    subst h
    have e1 := (hy.same 1 rfl).symm
    subst e1
    obtain ⟨_, rfl, _⟩ := hx.iface_inv
    refine ⟨gd (by simp) (by simp), ?_, rfl, rfl⟩
    rw [eqn]
    unfold Op.equalIn
    simp only [Sem.run_bind, run_underlying hu, Result.andThen_ok, Sem.run_pure]
  · cases h

theorem aStrOp_good {op : BinOp} {a b : ByteArray} {v : Value} (h : aStrOp op a b = some v) (w : World) : (Op.stringOp op a b).run P w = .ok v w ∧ gr v = true := by
  unfold aStrOp at h
  unfold Op.stringOp
  simp only [ByteArray.toList_eq]
  cases op <;> simp only at h <;> try (cases h; done)
  all_goals first
    | (simp only [Option.some.injEq] at h; subst h; exact ⟨rfl, rfl⟩)
    | skip
  split at h
  · rename_i hl
    simp only [Option.some.injEq] at h
    subst h
    refine ⟨?_, rfl⟩
    have h1 : a.data.toList.length = a.size := Array.length_toList
    have h2 : b.data.toList.length = b.size := Array.length_toList
    have hn : ¬ ((a.size + b.size : Nat) : Int) > IntKind.i64.max := by
      have : IntKind.i64.max = 9223372036854775807 := rfl
      rw [this]
      omega
    simp only [if_neg hn, Sem.run_pure]
    have e : a ++ b = ⟨⟨a.data.toList ++ b.data.toList⟩⟩ := by
      apply ByteArray.ext
      apply Array.ext'
      rw [ByteArray.data_append, Array.toList_append]
    rw [e]
  · cases h

theorem sym_val {r : Nat} {x : Value} (hr : 16 ≤ r) (h : VRel μ (.chan (some r)) x) : ∃ b β S, μ ((r - 16) / 2) = some (b, β, S) ∧ x = symV r β ∧ symOk r β := by
  cases h with
  | ground n hg => cases n <;> simp [ground] at hg
  | unk _ ht => exact ht.2.2.1 hr

theorem tok_val {r : Nat} {x : Value} (h : VRel μ (.chan (some r)) x) : Tok r x := by
  cases h with
  | ground n hg => cases n <;> simp [ground] at hg
  | unk _ ht => exact ht.2.2.2

theorem self_run (op : BinOp) (t : TypeId) (ox oy : Operand) (r β : Nat) (b : Bool) (w : World) (h : aSym op r r = some (.bool b)) (hr : 16 ≤ r) :
    (do eqGuard op t ox oy (symV r β) (symV r β); binOp op t (symV r β) (symV r β) : Sem Value).run P w = .ok (.bool b) w := by
  unfold aSym at h
  have h0 : (Nat.ble 16 r && Nat.beq r r) = true := by simp [hr]
  rw [h0] at h
  simp only at h
  by_cases hs : r % 8 = 2 ∨ r % 8 = 3 ∨ r % 8 = 4
  · have hn : Nat.ble (r % 8) 1 = false := by rcases hs with e | e | e <;> rw [e] <;> rfl
    unfold symV
    rw [if_pos hs]
    rw [hn] at h
    cases op <;> simp at h <;> subst h <;> simp [eqGuard, binOp, Op.stringOp]
  · have e : ∃ k n, symV r β = .int k n := by unfold symV; rw [if_neg hs]; exact ⟨_, _, rfl⟩
    obtain ⟨k, n, e⟩ := e
    rw [e]
    cases op <;> simp at h <;> first
      | (subst h; simp [eqGuard, binOp, Op.intCmp])
      | (obtain ⟨_, rfl⟩ := h; simp [eqGuard, binOp, Op.intCmp])

theorem aSym_good {op : BinOp} {t : TypeId} (ox oy : Operand) {r s : Nat} {x' y' v : Value} (h : aSym op r s = some v) (hx : VRel μ (.chan (some r)) x') (hy : VRel μ (.chan (some s)) y') (w : World) :
    ∃ v', (do eqGuard op t ox oy x' y'; binOp op t x' y' : Sem Value).run P w = .ok v' w ∧ VRel μ v v' := by
  have h0 := h
  unfold aSym at h
  cases hc : (Nat.ble 16 r && Nat.beq r s) with
  | false => rw [hc] at h; cases h
  | true =>
    rw [hc] at h
    simp only [Bool.and_eq_true, Nat.ble_eq, Nat.beq_eq] at hc
    obtain ⟨hr, rfl⟩ := hc
    obtain ⟨b, β, S, e1, rfl, _⟩ := sym_val hr hx
    obtain ⟨b', β', S', e2, rfl, _⟩ := sym_val hr hy
    rw [e1] at e2
    simp only [Option.some.injEq, Prod.mk.injEq] at e2
    obtain ⟨rfl, rfl, rfl⟩ := e2
    have hb : ∃ q, v = .bool q := by
      cases op <;> simp at h <;> first
        | exact ⟨_, h.symm⟩
        | exact ⟨_, h.2.symm⟩
    obtain ⟨q, rfl⟩ := hb
    exact ⟨.bool q, self_run op t ox oy r β q w h0 hr, .ground 1 rfl⟩

/-- two scalars of one kind, and not the same -/
def Differ (x y : Value) : Prop := (∃ k a b, x = .int k a ∧ y = .int k b ∧ a ≠ b) ∨ ∃ a b : ByteArray, x = .string a ∧ y = .string b ∧ a ≠ b

theorem Differ.symm {x y : Value} (h : Differ x y) : Differ y x := by
  rcases h with ⟨k, a, b, rfl, rfl, h⟩ | ⟨a, b, rfl, rfl, h⟩
  · exact .inl ⟨k, b, a, rfl, rfl, fun e => h e.symm⟩
  · exact .inr ⟨b, a, rfl, rfl, fun e => h e.symm⟩

theorem Differ.run {x y : Value} (h : Differ x y) {op : BinOp} {b : Bool} (ho : op = .eql ∧ b = false ∨ op = .neq ∧ b = true) (t : TypeId) (ox oy : Operand) (w : World) :
    (do eqGuard op t ox oy x y; binOp op t x y : Sem Value).run P w = .ok (.bool b) w := by
  rcases h with ⟨k, a, c, rfl, rfl, h⟩ | ⟨a, c, rfl, rfl, h⟩
  · rcases ho with ⟨rfl, rfl⟩ | ⟨rfl, rfl⟩ <;> simp [eqGuard, binOp, Op.intCmp, h]
  · have h' : ¬ a.toList = c.toList := by
      rw [ByteArray.toList_eq, ByteArray.toList_eq]
      intro e
      exact h (ByteArray.ext (Array.ext' e))
    rcases ho with ⟨rfl, rfl⟩ | ⟨rfl, rfl⟩ <;> simp [eqGuard, binOp, Op.stringOp, h']

theorem bytes_pos {a b : ByteArray} (ha : 0 < a.data.toList.length) (hb : b.data.toList.length = 0) : a ≠ b := by
  rintro rfl
  omega

theorem other_differ {x y x' y' : Value} (h : other x y = true) (hx : VRel μ x x') (hy : VRel μ y y') : Differ x' y' := by
  unfold other at h
  split at h
  · rename_i r
    split at h
    · rename_i n
      have e := hy.same 1 rfl
      subst e
      simp only [Bool.and_eq_true, Nat.beq_eq, decide_eq_true_eq] at h
      obtain ⟨rfl, rfl⟩ := h
      obtain ⟨m, rfl, hm⟩ := (tok_val hx).1 rfl
      exact .inl ⟨_, _, _, rfl, rfl, hm⟩
    · rename_i n
      have e := hy.same 1 rfl
      subst e
      simp only [Bool.and_eq_true, Nat.beq_eq, decide_eq_true_eq] at h
      obtain ⟨rfl, rfl⟩ := h
      obtain ⟨m, rfl, hm⟩ := (tok_val hx).2.2.2.2.2 rfl
      exact .inl ⟨_, _, _, rfl, rfl, hm⟩
    · rename_i s
      have e := hy.same 1 rfl
      subst e
      simp only [Bool.and_eq_true, Bool.or_eq_true, Nat.ble_eq, Nat.beq_eq] at h
      obtain ⟨h1, h2⟩ := h
      rcases h1 with rfl | ⟨hr, h1⟩
      · obtain ⟨m, rfl, hm⟩ := (tok_val hx).2.1 rfl
        exact .inr ⟨_, _, rfl, rfl, bytes_pos hm h2⟩
      · obtain ⟨b, β, S, _, rfl, ho⟩ := sym_val hr hx
        have hs : symV r β = .string (dec β) := by unfold symV; rw [if_pos (by omega)]
        refine .inr ⟨_, _, hs, rfl, bytes_pos ?_ h2⟩
        rcases h1 with e | e
        · have := ho.1 e
          unfold nameB at this
          simp only [Bool.and_eq_true, Nat.ble_eq] at this
          omega
        · exact (ho.2 e).2
    · cases h
  · cases h

theorem aBin_good {op : BinOp} {t : TypeId} {ox oy : Operand} {x x' y y' v : Value} (h : aBin P op t ox oy x y = some v) (hx : VRel μ x x') (hy : VRel μ y y') (w : World) :
    ∃ v', (do eqGuard op t ox oy x' y'; binOp op t x' y' : Sem Value).run P w = .ok v' w ∧ VRel μ v v' := by
  have pv : ∀ {x y : Value}, gr x = true → gr y = true → VRel μ x x' → VRel μ y y' → pureV P (do eqGuard op t ox oy x y; binOp op t x y) = some v →
      ∃ v', (do eqGuard op t ox oy x' y'; binOp op t x' y' : Sem Value).run P w = .ok v' w ∧ VRel μ v v' := by
    intro x y hgx hgy hx hy h
    have e1 := hx.gr hgx
    have e2 := hy.gr hgy
    subst e1
    subst e2
    obtain ⟨h1, h2⟩ := pureV_run h
    exact ⟨v, h1 w, .of_gr h2⟩
  unfold aBin at h
  split at h
  · rename_i a b
    have e1 := (hx.same 1 rfl).symm
    subst e1
    have e1 := (hy.same 1 rfl).symm
    subst e1
    obtain ⟨h1, h2⟩ := aStrOp_good (P := P) h w
    refine ⟨v, ?_, .of_gr h2⟩
    have hg : (eqGuard op t ox oy (.string a) (.string b)).run P w = .ok () w := by unfold eqGuard; cases op <;> rfl
    have hb : binOp op t (.string a) (.string b) = Op.stringOp op a b := by cases op <;> rfl
    simp only [Sem.run_bind, hg, Result.andThen_ok, hb, h1]
  · exact pv rfl rfl hx hy h
  · exact pv rfl rfl hx hy h
  · exact pv rfl rfl hx hy h
  · split at h
    · rename_i hg
      simp only [Bool.and_eq_true] at hg
      exact pv hg.1 hg.2 hx hy h
    · cases h
  · exact aSym_good ox oy h hx hy w
  · cases ho : (other x y || other y x) with
    | true =>
      rw [ho] at h
      have hd : Differ x' y' := by
        rcases (Bool.or_eq_true _ _).mp ho with e | e
        · exact other_differ e hx hy
        · exact (other_differ e hy hx).symm
      cases op <;> simp at h <;> subst h
      · exact ⟨_, hd.run (.inl ⟨rfl, rfl⟩) t ox oy w, .ground 1 rfl⟩
      · exact ⟨_, hd.run (.inr ⟨rfl, rfl⟩) t ox oy w, .ground 1 rfl⟩
    | false =>
    rw [ho] at h
    simp only at h
    split at h
    · simp only [Option.map_eq_some_iff] at h
      obtain ⟨b, h1, rfl⟩ := h
      obtain ⟨g1, g2, g3, _⟩ := aEq_good ox oy h1 hx hy w
      refine ⟨.bool b, ?_, .ground 1 rfl⟩
      simp only [Sem.run_bind, g1, Result.andThen_ok, g3, g2, Sem.run_pure]
    · simp only [Option.map_eq_some_iff] at h
      obtain ⟨b, h1, rfl⟩ := h
      obtain ⟨g1, g2, _, g4⟩ := aEq_good ox oy h1 hx hy w
      refine ⟨.bool !b, ?_, .ground 1 rfl⟩
      simp only [Sem.run_bind, g1, Result.andThen_ok, g4, g2, Sem.run_pure]
    · cases h

end
end Go.Det
