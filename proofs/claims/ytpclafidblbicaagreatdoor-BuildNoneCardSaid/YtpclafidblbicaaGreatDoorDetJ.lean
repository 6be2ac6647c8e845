/- The evaluator: one operation, and a row of operations in the order of the text. -/
import Derived.Test.YtpclafidblbicaaGreatDoorDetI
namespace Go.Det
open Go.RowKit (Below)

section
variable {P : Program} {B₀ : Nat} {w₀ : World} {μ : Mu} {A : St} {w : World}

theorem gr_all_map {ρ ρ' : Operand → Value} (h : ∀ x, VRel μ (ρ x) (ρ' x)) {o : Option Operand} (hg : (o.all fun v => gr (ρ v)) = true) : o.map ρ' = o.map ρ := by
  cases o with
  | none => rfl
  | some x => simp only [Option.map_some, (h x).gr (by simpa using hg)]

theorem evalOp_ok {X : Ext} (hX : ExtOK P X) {call : Func → FuncId → Array Value → M Value} (hcall : CallOK P B₀ w₀ call) {ρ ρ' : Operand → Value} (hρ : ∀ x, VRel μ (ρ x) (ρ' x)) {o : Oper} {v : Value} {A' : St}
    (hS : Sim B₀ w₀ A.ro μ A.get w) (h : evalOp P X call ρ o A = some (v, A')) (hf : Free μ A.next A'.next) : OpOK P B₀ w₀ μ A A' (execOp ρ' o) w v := by
  have hpr : ∀ parts : Array (Nat × Operand), PR μ (parts.map fun (i, x) => (i, ρ x)).toList (parts.map fun (i, x) => (i, ρ' x)).toList := by
    intro parts
    rw [Array.toList_map, Array.toList_map]
    exact PR.of_map hρ _
  have hlr : ∀ xs : Array Operand, LR μ (xs.map ρ).toList (xs.map ρ').toList := by
    intro xs
    rw [Array.toList_map, Array.toList_map]
    exact LR.of_map hρ _
  unfold evalOp at h
  cases hop : o.op <;> rw [hop] at h <;> (try simp only at h) <;> try (simp [fail_eq] at h; done)
  case move x =>
    rw [ret_eq] at h; cases h
    exact OpOK.same hS (by simp only [execOp, hop, Sem.run_pure]) (hρ x)
  case assign x =>
    rw [ret_eq] at h; cases h
    exact OpOK.same hS (by simp only [execOp, hop, Sem.run_pure]) (hρ x)
  case pick c a b =>
    have hc := hρ c
    cases hcv : ρ c <;> rw [hcv] at h hc <;> (try simp only at h) <;> try (simp [fail_eq] at h; done)
    rename_i t
    rw [ret_eq] at h; cases h
    have e := hc.same 1 rfl
    refine OpOK.same hS (v' := if t then ρ' a else ρ' b) (by simp only [execOp, hop, Sem.run_bind, e, asBool, Sem.run_pure, Result.andThen_ok]) ?_
    cases t
    · exact hρ b
    · exact hρ a
  case alloc t =>
    simp only [bind_eq, opt_eq] at h
    obtain ⟨z, B, ⟨hz, rfl⟩, h1⟩ := h
    obtain ⟨_, _, _, hg⟩ := tzero_info hz
    obtain ⟨μ', w', v', k1, k2, k3, k4⟩ := aNew_good (P := P) hS h1 hf (.of_gr hg)
    refine .value ⟨μ', w', v', ?_, k2, k3, k4⟩
    have : (Instr.alloc t true (.tuple #[])).run P w = ((do pure (.pointer (some (← newVar t z))) : Sem Value)).run P w := by
      simp only [Instr.alloc, Sem.run_bind, run_zeroValue hz, Result.andThen_ok]
    simp only [execOp, hop, Sem.run_bind (P := P) (x := Instr.alloc t true (.tuple #[])), this, k1, Result.andThen_ok, Sem.run_pure]
  case box t x =>
    have := aNew_good (P := P) hS h hf (hρ x)
    simpa only [execOp, hop, Instr.box] using OpOK.of_good this
  case build t parts =>
    have := aBuild_good (P := P) hS h (hpr parts)
    simpa only [execOp, hop] using OpOK.of_good this
  case buildSlice t len parts =>
    have := aBuildSlice_good (P := P) hS h hf (hpr parts)
    simpa only [execOp, hop] using OpOK.of_good this
  case load t a =>
    have := aLoad_good (P := P) hS h (hρ a)
    simpa only [execOp, hop] using OpOK.of_good this
  case store t a x =>
    simp only [bind_eq, ret_eq, Prod.mk.injEq] at h
    obtain ⟨u, B, h1, rfl, rfl⟩ := h
    have := (aStore_good (P := P) hS h1 (hρ a) (hρ x)).1
    simpa only [execOp, hop] using OpOK.of_goodU this
  case nilCheck x =>
    have hx := hρ x
    cases hxv : ρ x <;> rw [hxv] at h hx <;> (try simp only at h) <;> try (simp [fail_eq] at h; done)
    · rename_i a
      cases a with
      | none => simp [fail_eq] at h
      | some a =>
        rw [ret_eq] at h; cases h
        generalize hy : ρ' x = y at hx
        cases hx with
        | ground n hg => cases n <;> simp [ground] at hg
        | ptr hmu => exact OpOK.same hS (by simp only [execOp, hop, hy, Sem.run_pure]) (.ptr hmu)
    · rename_i r
      rw [ret_eq] at h; cases h
      have hx2 : ∃ r', ρ' x = .map r' := by
        generalize ρ' x = y at hx
        cases hx with
        | ground n hg => exact ⟨_, rfl⟩
        | map hmu => exact ⟨_, rfl⟩
      obtain ⟨r', hr'⟩ := hx2
      rw [hr'] at hx
      exact OpOK.same hS (by simp only [execOp, hop, hr', Sem.run_pure]) hx
    · rename_i fn f c
      cases fn <;> try (simp [fail_eq] at h; done)
      rename_i g
      rw [ret_eq] at h; cases h
      obtain ⟨f', c', e, _, _⟩ := hx.func_inv
      rw [e] at hx
      exact OpOK.same hS (by simp only [execOp, hop, e, Sem.run_pure]) hx
  case binOp op t x y yt =>
    rw [opt_eq] at h
    obtain ⟨h, rfl⟩ := h
    obtain ⟨v', h1, h2⟩ := aBin_good (P := P) h (hρ x) (hρ y) w
    refine OpOK.same hS (v' := v') ?_ h2
    simp only [execOp, hop]
    rw [Sem.run_bind, h1]
    rfl
  case unOp op t x =>
    split at h
    · rename_i hg
      rw [← (hρ x).gr hg] at h
      simpa only [execOp, hop] using OpOK.of_good (Good.pureV hS h)
    · simp [fail_eq] at h
  case convert src dst x =>
    have := aConvert_good (P := P) hS h hf (hρ x)
    simpa only [execOp, hop] using OpOK.of_good this
  case makeInterface t x =>
    cases hu : P.underlying t with
    | none => rw [hu] at h; simp [fail_eq] at h
    | some d =>
      rw [hu] at h
      have hni : ∀ ms, d ≠ .interface ms := by cases d <;> first | (simp [fail_eq] at h; done) | (intro ms; simp)
      have h : M.ret (Value.iface t (ρ x)) A = some (v, A') := by cases d <;> first | exact absurd rfl (hni _) | exact h
      rw [ret_eq] at h; cases h
      refine OpOK.same hS (v' := .iface t (ρ' x)) ?_ (.iface (hρ x))
      cases d <;> first | exact absurd rfl (hni _) | (simp only [execOp, hop, Instr.makeInterface, Sem.run_bind, run_underlying hu, Result.andThen_ok, Sem.run_pure])
  case makeFunc fn first captured =>
    rw [ret_eq] at h; cases h
    refine OpOK.same hS (v' := .func fn (first.map ρ') (captured.map ρ')) (by simp only [execOp, hop, Instr.makeFunc, Sem.run_bind, Sem.run_pure, Result.andThen_ok]) ?_
    exact .func (LR.arr (hlr first)).1 (LR.arr (hlr first)).2 (LR.arr (hlr captured)).1 (LR.arr (hlr captured)).2
  case makeMap t r =>
    split at h
    · rename_i hk
      simp only [bind_eq, ret_eq, Prod.mk.injEq] at h
      obtain ⟨id, B, h1, rfl, rfl⟩ := h
      obtain ⟨rfl, g1, g2, g3, g4⟩ := Sim.obj (S := 0) (o' := .map #[] 0) hS h1 hf (fun _ _ => ⟨#[], rfl, rfl, .nil⟩)
      refine .value ⟨_, _, .map (some w.heap.size), ?_, g3, g4, .map (Mu.add_self _ _ _)⟩
      cases r with
      | none => simp only [execOp, hop, Instr.makeMap, Option.map_none, Sem.run_bind, Sem.run_pure, Result.andThen_ok, run_newObj]
      | some x =>
        have hx := hρ x
        simp only [Option.map_some, hintOk] at hk
        cases hxv : ρ x <;> rw [hxv] at hk hx <;> (try simp only at hk) <;> try (cases hk; done)
        have e := hx.same 1 rfl
        cases hu : P.underlying t with
        | none => rw [hu] at hk; cases hk
        | some d =>
          rw [hu] at hk
          cases d <;> (try simp only at hk) <;> try (cases hk; done)
          simp only [execOp, hop, Instr.makeMap, Option.map_some, e, Sem.run_bind, run_underlying hu, asInt, asIntOf, Sem.run_pure, Result.andThen_ok, run_newObj]
    · simp [fail_eq] at h
  case makeSlice t l c =>
    have := aMakeSlice_good (P := P) (t := t) hS h hf (hρ l) (hρ c)
    simpa only [execOp, hop] using OpOK.of_good this
  case slice t x lo hi mx =>
    have hx := hρ x
    have rest : ∀ {y : Value}, M.opt (aSlice P t y (lo.map ρ) (hi.map ρ) (mx.map ρ)) A = some (v, A') → VRel μ y (ρ' x) → OpOK P B₀ w₀ μ A A' (execOp ρ' o) w v := by
      intro y hh hx
      rw [opt_eq] at hh
      obtain ⟨hh, rfl⟩ := hh
      obtain ⟨v', h1, h2⟩ := aSlice_good (P := P) hh hx (OR.of_map hρ lo) (OR.of_map hρ hi) (OR.of_map hρ mx) w
      exact OpOK.same hS (v' := v') (by simp only [execOp, hop, Sem.run_bind, h1, Result.andThen_ok, Sem.run_pure]) h2
    cases hxv : ρ x with
    | string s =>
      rw [hxv] at h hx
      simp only at h
      split at h
      · rename_i hg
        simp only [Bool.and_eq_true] at hg
        obtain ⟨⟨g1, g2⟩, g3⟩ := hg
        have e := hx.same 1 rfl
        have e3 : mx = none := by simpa using g3
        rw [← gr_all_map hρ g1, ← gr_all_map hρ g2] at h
        have := OpOK.of_good (Good.pureV hS h)
        simpa only [execOp, hop, e, e3, Option.map_none] using this
      · simp [fail_eq] at h
    | _ => rw [hxv] at h hx; exact rest h hx
  case fieldAddr s x f =>
    cases hu : P.underlying s with
    | none => rw [hu] at h; simp [fail_eq] at h
    | some d =>
      rw [hu] at h
      cases d <;> try (simp [fail_eq] at h; done)
      rename_i fields
      simp only [bind_eq, opt_eq] at h
      obtain ⟨fd, B, ⟨hfd, rfl⟩, h1⟩ := h
      have hx := hρ x
      cases hxv : ρ x <;> rw [hxv] at h1 hx <;> (try simp only at h1) <;> try (simp [fail_eq] at h1; done)
      rename_i a
      cases a with
      | none => simp [fail_eq] at h1
      | some a =>
        obtain ⟨id, off, sp⟩ := a
        cases sp with
        | some _ => simp [fail_eq] at h1
        | none =>
          cases hs : tsize P fd.type with
          | none => rw [hs] at h1; simp [fail_eq] at h1
          | some n =>
            rw [hs] at h1
            cases n with
            | zero => simp [fail_eq] at h1
            | succ n =>
              simp only [ret_eq, Prod.mk.injEq] at h1
              obtain ⟨rfl, rfl⟩ := h1
              generalize hy : ρ' x = y at hx
              cases hx with
              | ground n hg => cases n <;> simp [ground] at hg
              | @ptr id off b β S hmu =>
                refine OpOK.same hS (v' := .pointer (some ⟨b, β + (off + fd.offset), none⟩)) ?_ (.ptr hmu)
                simp only [execOp, hop, hy, Instr.fieldAt, Sem.run_bind, run_underlying hu, Result.andThen_ok, hfd, Instr.sureAddr, Sem.run_pure, fieldPlace, run_sizeOf hs, Nat.succ_ne_zero, if_false, Addr.add_eq, Nat.add_assoc]
  case field t x f =>
    cases hu : P.underlying t with
    | none => rw [hu] at h; simp [fail_eq] at h
    | some d =>
      rw [hu] at h
      cases d <;> try (simp [fail_eq] at h; done)
      rename_i fields
      simp only [bind_eq, opt_eq] at h
      obtain ⟨fd, B, ⟨hfd, rfl⟩, h1⟩ := h
      have hx := hρ x
      cases hxv : ρ x <;> rw [hxv] at h1 hx <;> (try simp only at h1) <;> try (simp [fail_eq] at h1; done)
      rename_i cs
      rw [opt_eq] at h1
      obtain ⟨h1, rfl⟩ := h1
      obtain ⟨ys, hy, hl⟩ := hx.agg_inv
      obtain ⟨v', k1, k2⟩ := aPart_good (P := P) h1 hl w
      refine OpOK.same hS (v' := v') ?_ k2
      simp only [execOp, hop, hy, Instr.field, Sem.run_bind, run_underlying hu, Result.andThen_ok, hfd, asAgg, Sem.run_pure, k1]
  case indexAddr t x ix =>
    have hi := hρ ix
    cases hiv : ρ ix <;> rw [hiv] at h hi <;> (try simp only at h) <;> try (simp [fail_eq] at h; done)
    rename_i k i
    have ei := hi.same 1 rfl
    cases hu : P.underlying t with
    | none => rw [hu] at h; simp [fail_eq] at h
    | some d =>
      rw [hu] at h
      have hx := hρ x
      cases d <;> cases hxv : ρ x <;> rw [hxv] at h hx <;> (try simp only at h) <;> try (simp [fail_eq] at h; done)
      · rename_i elem a len cap
        cases a with
        | none => simp [fail_eq] at h
        | some a =>
          obtain ⟨id, off, sp⟩ := a
          simp only [bind_eq, opt_eq] at h
          obtain ⟨n, B, ⟨hs, rfl⟩, h1⟩ := h
          split at h1
          · rename_i hc
            rw [ret_eq] at h1; cases h1
            have hx2 : ∃ b β S cap', μ id = some (b, β, S) ∧ ρ' x = .slice (some ⟨b, β + off, none⟩) len cap' := by
              generalize ρ' x = y at hx
              cases hx with
              | ground n hg => cases n <;> simp [ground] at hg
              | @slice id off b β S len cap hmu => exact ⟨b, β, S, _, hmu, rfl⟩
              | @soft id off b β S len c sz cap' a' hmu hle hae hss => exact ⟨b, β, S, cap', hmu, by rw [hae (by omega)]⟩
            obtain ⟨b, β, S, cap', hmu, hy⟩ := hx2
            refine OpOK.same hS (v' := .pointer (some ⟨b, β + (off + i.toNat * n), none⟩)) ?_ (.ptr hmu)
            simp only [execOp, hop, hy, ei, Instr.indexAt, asIntOf, Sem.run_bind, run_underlying hu, Result.andThen_ok, Sem.run_pure, hc, and_self, if_true, run_sizeOf hs, Addr.add_eq, Nat.add_assoc]
          · simp [fail_eq] at h1
      · rename_i len elem a
        cases a with
        | none => simp [fail_eq] at h
        | some a =>
          obtain ⟨id, off, sp⟩ := a
          cases sp with
          | some _ => simp [fail_eq] at h
          | none =>
            simp only [bind_eq, opt_eq] at h
            obtain ⟨n, B, ⟨hs, rfl⟩, h1⟩ := h
            split at h1
            · rename_i hc
              rw [ret_eq] at h1; cases h1
              generalize hy : ρ' x = y at hx
              cases hx with
              | ground n hg => cases n <;> simp [ground] at hg
              | @ptr id off b β S hmu =>
                refine OpOK.same hS (v' := .pointer (some ⟨b, β + (off + i.toNat * n), none⟩)) ?_ (.ptr hmu)
                simp only [execOp, hop, hy, ei, Instr.indexAt, asIntOf, Sem.run_bind, run_underlying hu, Result.andThen_ok, Instr.sureAddr, Sem.run_pure, hc, and_self, if_true, run_sizeOf hs, Addr.add_eq, Nat.add_assoc]
            · simp [fail_eq] at h1
  case index t x ix =>
    rw [opt_eq] at h
    obtain ⟨h, rfl⟩ := h
    obtain ⟨v', k1, k2⟩ := aIndex_good (P := P) h (hρ x) (hρ ix) w
    exact OpOK.same hS (v' := v') (by simp only [execOp, hop, Sem.run_bind, k1, Result.andThen_ok, Sem.run_pure]) k2
  case lookup t m k ok =>
    have := aLookup_good (P := P) hS h (hρ m) (hρ k)
    simpa only [execOp, hop] using OpOK.of_good this
  case mapUpdate t m k x =>
    simp only [bind_eq, ret_eq, Prod.mk.injEq] at h
    obtain ⟨u, B, h1, rfl, rfl⟩ := h
    have := (aMapUpdate_good (P := P) hS h1 (hρ m) (hρ k) (hρ x)).1
    simpa only [execOp, hop] using OpOK.of_goodU this
  case insert t m k x =>
    simp only [bind_eq, ret_eq, Prod.mk.injEq] at h
    obtain ⟨u, B, h1, rfl, rfl⟩ := h
    have := (aMapUpdate_good (P := P) hS h1 (hρ m) (hρ k) (hρ x)).1
    simpa only [execOp, hop] using OpOK.of_goodU this
  case mapEntry t m k =>
    have := aMapEntry_good (P := P) hS h (hρ m) (hρ k)
    simpa only [execOp, hop] using OpOK.of_good this
  case entryStore t m s x =>
    simp only [bind_eq, ret_eq, Prod.mk.injEq] at h
    obtain ⟨u, B, h1, rfl, rfl⟩ := h
    have := (aEntryStore_good (P := P) (mt := t) hS h1 (hρ m) (hρ s) (hρ x)).1
    simpa only [execOp, hop] using OpOK.of_goodU this
  case range t x =>
    have := aRange_good (P := P) hS h hf (hρ x)
    simpa only [execOp, hop] using OpOK.of_good this
  case next it isString =>
    have := aNext_good (P := P) (ty := o.type) hS h (hρ it)
    simpa only [execOp, hop] using OpOK.of_good this
  case entry it =>
    have := aEntry_good (P := P) hS h (hρ it)
    simpa only [execOp, hop] using OpOK.of_good this
  case typeAssert x xt asserted ok =>
    rw [opt_eq] at h
    obtain ⟨h, rfl⟩ := h
    obtain ⟨v', k1, k2⟩ := aTypeAssert_good (P := P) (xt := xt) h (hρ x) w
    exact OpOK.same hS (v' := v') (by simp only [execOp, hop, Sem.run_bind, k1, Result.andThen_ok, Sem.run_pure]) k2
  case extract t i =>
    have hx := hρ t
    cases hxv : ρ t <;> rw [hxv] at h hx <;> (try simp only at h) <;> try (simp [fail_eq] at h; done)
    rename_i vs
    rw [opt_eq] at h
    obtain ⟨h, rfl⟩ := h
    obtain ⟨ys, hy, hl⟩ := hx.tuple_inv
    obtain ⟨v', k1, k2⟩ := hl.arr? h
    exact OpOK.same hS (v' := v') (by simp only [execOp, hop, hy, Instr.extract, k1, Sem.run_bind, Sem.run_pure, Result.andThen_ok]) k2
  case call c =>
    cases hcal : c.callee with
    | builtin b =>
      rw [hcal] at h
      simp only at h
      have := aBuiltin_ok (P := P) (ty := o.type) (consts := c.args.map fun | .const _ => true | _ => false) hS h hf (hlr c.args)
      have e : execOp ρ' o = builtin b c.argTypes o.type (c.args.map fun | .const _ => true | _ => false) (c.args.map ρ') := by
        simp only [execOp, hop, resolve, hcal]
        rfl
      rw [e]
      exact this
    | value f =>
      rw [hcal] at h
      simp only at h
      have := aCall_ok (P := P) hX hcall hS h hf (hρ f) (hlr c.args)
      have e : execOp ρ' o = (do let d ← Deferred.ofValue (ρ' f) (c.args.map ρ'); invoke d.target d.args) := by
        simp only [execOp, hop, resolve, hcal]
      rw [e]
      exact this
    | invoke r m => rw [hcal] at h; simp [fail_eq] at h

end
end Go.Det
