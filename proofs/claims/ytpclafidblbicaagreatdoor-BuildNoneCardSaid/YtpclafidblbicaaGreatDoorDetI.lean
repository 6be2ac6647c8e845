/- The evaluator: conversions, calls, and what an operation comes to in the model. -/
import Derived.Test.YtpclafidblbicaaGreatDoorDetH
import Derived.Laws.BytesString
import GoSem.Extern.MathFloatBits
namespace Go.Det
open Go.RowKit (Below)

section
variable {P : Program} {B₀ : Nat} {w₀ : World} {μ : Mu} {A : St} {w : World}

theorem bytes_of : ∀ {l : List Value} {bs : List UInt8}, l.mapM byteOfV = some bs → ∃ ns : List Int, l = ns.map (.int .u8) ∧ bs = ns.map fun n => UInt8.ofNat n.toNat
  | [], bs, h => ⟨[], rfl, by simp at h; exact h⟩
  | v :: l, bs, h => by
    simp only [List.mapM_cons, bind, Option.bind_eq_some_iff, pure, Option.some.injEq] at h
    obtain ⟨b, hb, r, hr, rfl⟩ := h
    obtain ⟨ns, rfl, rfl⟩ := bytes_of hr
    unfold byteOfV at hb
    split at hb
    · rename_i n
      simp only [Option.some.injEq] at hb
      exact ⟨n :: ns, rfl, by simp [hb]⟩
    · cases hb

theorem fold_push : ∀ (ns : List Int) (s : ByteArray), (ns.foldl (fun r n => r.push (UInt8.ofNat n.toNat)) s).data.toList = s.data.toList ++ ns.map fun n => UInt8.ofNat n.toNat
  | [], s => by simp
  | n :: ns, s => by
    rw [List.foldl_cons, fold_push ns]
    simp [ByteArray.push]

theorem freeze_push (w : World) (d : Nat) (c : Array Value) (e : TypeId) (n : Nat) :
    ({ w with drawn := d, heap := w.heap.push (.cells c e (0, 0)) } : World).freeze { block := w.heap.size, off := n } 1 = { w with drawn := d, heap := w.heap.push (.cells c e (n, n + 1)) } := by
  unfold World.freeze
  rw [if_neg (by decide)]
  have : (w.heap.push (.cells c e (0, 0))).modify w.heap.size (fun
      | .cells c elem (lo, hi) => .cells c elem (if lo == hi then (n, n + 1) else (min lo n, max hi (n + 1)))
      | o => o) = w.heap.push (.cells c e (n, n + 1)) := by
    apply Array.ext_getElem?
    intro j
    rw [Array.getElem?_modify]
    by_cases hj : w.heap.size = j
    · subst hj; simp
    · rw [if_neg hj]
      simp only [Array.getElem?_push, if_neg (fun h' : j = w.heap.size => hj h'.symm)]
  exact congrArg (fun h => ({ w with drawn := d, heap := h } : World)) this

theorem aConvert_good {src dst : TypeId} {x x' v : Value} {A' : St} (hS : Sim B₀ w₀ A.ro μ A.get w) (h : aConvert P src dst x A = some (v, A')) (hf : Free μ A.next A'.next) (hx : VRel μ x x') :
    Good P B₀ w₀ μ A A' (convert src dst x') w v := by
  unfold aConvert at h
  cases x <;> try (simp [fail_eq] at h; done)
  · have e := (hx.gr rfl).symm
    subst e
    exact Good.pureV hS h
  · have e := (hx.gr rfl).symm
    subst e
    exact Good.pureV hS h
  · -- a string
    rename_i s
    have e := (hx.gr rfl).symm
    subst e
    simp only at h
    cases hs : P.underlying src with
    | none => rw [hs] at h; simp [fail_eq] at h
    | some ds =>
    cases hd : P.underlying dst with
    | none => rw [hs, hd] at h; cases ds <;> simp [fail_eq] at h
    | some dd =>
    rw [hs, hd] at h
    cases ds <;> try (simp [fail_eq] at h; done)
    cases dd <;> try (simp [fail_eq] at h; done)
    · simp only [ret_eq, Prod.mk.injEq] at h
      obtain ⟨rfl, rfl⟩ := h
      refine Good.quiet hS rfl (v' := .string s) ?_ (.of_gr rfl)
      simp only [convert, Sem.run_bind, run_underlying hs, run_underlying hd, Result.andThen_ok, Sem.run_pure]
    · rename_i e
      simp only at h
      cases he : P.underlying e with
      | none => rw [he] at h; simp [fail_eq] at h
      | some de =>
      rw [he] at h
      cases de <;> try (simp [fail_eq] at h; done)
      rename_i k
      cases k <;> try (simp [fail_eq] at h; done)
      cases hi : P.info? e with
      | none => rw [hi] at h; simp [fail_eq] at h
      | some i =>
      rw [hi] at h
      simp only at h
      split at h
      · rename_i hc
        simp only [bind_eq, ret_eq, Prod.mk.injEq] at h
        obtain ⟨id, B, h1, rfl, rfl⟩ := h
        obtain ⟨ho, hl, _, rfl, rfl⟩ := aRow_eq h1
        have hfree := hf A.next (Nat.le_refl _) (by simp)
        have hlen : s.data.toList.length = s.size := Array.length_toList
        let cap := (Question.appendCap s.size 0 e).cut (w.tape w.drawn (.appendCap s.size 0 e))
        have hcap : s.size ≤ cap := by simp [cap, Question.cut]
        let all : Array Value := (s.data.map fun b => .int .u8 b.toNat) ++ Array.replicate (cap - s.size) (.int .u8 0)
        have hall : all.size = cap := by
          simp only [all, Array.size_append, Array.size_map, Array.size_replicate]
          have : s.data.size = s.size := rfl
          omega
        have hrun : (convert src dst (.string s)).run P w = .ok (.slice (some ⟨w.heap.size, 0, none⟩) s.size cap)
            { w with drawn := w.drawn + 1, heap := w.heap.push (.cells all e (all.size, all.size + 1)) } := by
          simp only [convert, Sem.run_bind, run_underlying hs, run_underlying hd, Result.andThen_ok, run_underlying he, Conv.stringToBytes, run_choose, Question.forced, Bool.false_eq_true, if_false, newRow, run_newObj, Sem.run_pure,
            markStringish, run_shape]
          have hsh : ({ w with drawn := w.drawn + 1, heap := w.heap.push (.cells all e (0, 0)) } : World).shape? w.heap.size = some (e, all.size) := by simp [World.shape?]
          simp only [cap, all] at hsh ⊢
          rw [hsh]
          simp only [run_freeze, Result.andThen_ok, freeze_push]
        have hSd : Sim B₀ w₀ A.ro μ A.get { w with drawn := w.drawn + 1 } := hS.drawn _
        have hSn := hSd.row (fz := (0, 0)) (e := e) (e' := e) (cs := ⟨s.data.toList.map fun b => .int .u8 b.toNat⟩) (c' := all) hl hfree (by simp; rw [hall]; exact hcap) (by
          have : all.toList.take ((⟨s.data.toList.map fun b => Value.int .u8 b.toNat⟩ : Array Value)).size = s.data.toList.map fun b => Value.int .u8 b.toNat := by
            simp only [all, Array.toList_append, Array.toList_map, List.size_toArray]
            rw [List.take_append_of_le_length (Nat.le_refl _), List.take_of_length_le (Nat.le_refl _)]
          rw [this]
          refine LR.refl_all fun v hv => ?_
          simp only [List.mem_map] at hv
          obtain ⟨b, _, rfl⟩ := hv
          exact .ground 1 rfl) all.size (all.size + 1) (by intro i hi h'; omega)
        refine ⟨_, _, _, hrun, Mu.add_ext hfree, hSn, ?_⟩
        have := VRel.soft (off := 0) (len := s.data.toList.length) (c := s.data.toList.length) (sz := 1) (cap' := cap) (a' := ⟨w.heap.size, 0, none⟩) (Mu.add_self μ A.next (w.heap.size, 0, all.size)) (by omega) (fun _ => by simp) (by omega)
        rw [hlen] at this ⊢
        exact this
      · simp [fail_eq] at h
  · -- a slice of bytes
    rename_i a len cap
    simp only at h
    cases hs : P.underlying src with
    | none => rw [hs] at h; simp [fail_eq] at h
    | some ds =>
    cases hd : P.underlying dst with
    | none => rw [hs, hd] at h; cases ds <;> simp [fail_eq] at h
    | some dd =>
    rw [hs, hd] at h
    cases ds <;> try (simp [fail_eq] at h; done)
    cases dd <;> try (simp [fail_eq] at h; done)
    rename_i e
    simp only at h
    cases he : P.underlying e with
    | none => rw [he] at h; simp [fail_eq] at h
    | some de =>
    rw [he] at h
    cases de <;> try (simp [fail_eq] at h; done)
    rename_i k
    cases k <;> try (simp [fail_eq] at h; done)
    simp only [bind_eq, opt_eq, ret_eq, Prod.mk.injEq] at h
    obtain ⟨l, B, h1, bs, B2, ⟨h2, rfl⟩, rfl, rfl⟩ := h
    obtain ⟨⟨l', k1, k2, k3⟩, k4, k5, k6⟩ := aCells_good (P := P) hS h1 hx rfl (Nat.le_refl _)
    obtain ⟨ns, rfl, rfl⟩ := bytes_of h2
    have e1 : l' = ns.map (.int .u8) := k2.gr (by
      rw [List.all_eq_true]
      intro x hx
      simp only [List.mem_map] at hx
      obtain ⟨n, _, rfl⟩ := hx
      rfl)
    subst e1
    have hstr : (⟨⟨ns.map fun n => UInt8.ofNat n.toNat⟩⟩ : ByteArray) = ns.foldl (fun r n => r.push (UInt8.ofNat n.toNat)) ByteArray.empty := by
      apply ByteArray.ext
      apply Array.ext'
      rw [fold_push]
      exact (List.nil_append _).symm
    refine ⟨μ, w, .string ⟨⟨ns.map fun n => UInt8.ofNat n.toNat⟩⟩, ?_, MExt.refl _ _ _, by rw [k4]; exact hS, .of_gr rfl⟩
    have hx' : ∃ a' c', x' = .slice a' len c' := by
      cases hx with
      | ground n hg => exact ⟨_, _, rfl⟩
      | slice _ => exact ⟨_, _, rfl⟩
      | soft _ _ _ _ => exact ⟨_, _, rfl⟩
    obtain ⟨a', c', rfl⟩ := hx'
    rw [run_convert_bytes_string w src dst e a' len c' hs he hd]
    cases a' with
    | none =>
      have hns : ns = [] := by
        have : (#[] : Array Value) = ⟨ns.map (.int .u8)⟩ := by
          simp only [Builtin.firstCells, Sem.run_pure, Result.ok.injEq, and_true] at k1
          exact k1
        have := congrArg Array.toList this
        simpa using this.symm
      subst hns
      rfl
    | some a' =>
      have hl : (loadCells a' len).run P w = .ok (ns.map (Value.int .u8)).toArray w := by
        simp only [Builtin.firstCells, Nat.mul_one] at k1
        exact k1
      rw [run_bytesToString w a' len c' ns hl, ← hstr]
  · -- a symbol
    rename_i a
    cases a with
    | none => simp [fail_eq] at h
    | some r =>
      simp only at h
      cases hs : P.underlying src with
      | none => rw [hs] at h; simp [fail_eq] at h
      | some ds =>
      cases hd : P.underlying dst with
      | none => rw [hs, hd] at h; simp [fail_eq] at h
      | some dd =>
      rw [hs, hd] at h
      cases ds <;> try (simp [fail_eq] at h; done)
      rename_i k1
      cases k1 <;> try (simp [fail_eq] at h; done)
      cases dd <;> try (simp [fail_eq] at h; done)
      rename_i k2
      cases k2 <;> try (simp [fail_eq] at h; done)
      simp only at h
      cases hr : (Nat.ble 16 r && Nat.beq (r % 8) 1) with
      | false => rw [hr] at h; simp [fail_eq] at h
      | true =>
        rw [hr] at h
        simp only [ret_eq, Prod.mk.injEq] at h
        obtain ⟨rfl, rfl⟩ := h
        simp only [Bool.and_eq_true, Nat.ble_eq, Nat.beq_eq] at hr
        obtain ⟨b, β, S, e1, rfl, _⟩ := sym_val hr.1 hx
        refine Good.quiet hS rfl (v' := symV (r - 1) β) ?_ (.unk (by unfold symV; rw [if_neg (by omega)]; rfl) (Tag.sym (by omega) (b := b) (S := S) ?_ ⟨fun h => by omega, fun h => by omega⟩))
        · have hw : IntKind.i64.wrap (((β % 256 : Nat) : Int) - 128) = ((β % 256 : Nat) : Int) - 128 := by
            have : β % 256 < 256 := Nat.mod_lt _ (by decide)
            generalize β % 256 = q at this
            unfold IntKind.wrap
            simp [IntKind.bits, IntKind.signed]
            omega
          have e0 : ¬ (r % 8 = 2 ∨ r % 8 = 3 ∨ r % 8 = 4) := by omega
          have e1 : ¬ (r % 8 = 0) := by omega
          have e2 : ¬ ((r - 1) % 8 = 2 ∨ (r - 1) % 8 = 3 ∨ (r - 1) % 8 = 4) := by omega
          have e3 : (r - 1) % 8 = 0 := by omega
          simp only [symV, if_neg e0, if_neg e1, if_neg e2, if_pos e3, convert, Sem.run_bind, run_underlying hs, run_underlying hd, Result.andThen_ok, Conv.intToInt, Sem.run_pure, hw]
        · rw [← e1]; congr 1; omega

/-! ### What an operation comes to -/
/-- what the calls of functions with a body come to -/
def CallOK (P : Program) (B₀ : Nat) (w₀ : World) (call : Func → FuncId → Array Value → M Value) : Prop :=
  ∀ (fn : Func) (g : FuncId) (args args' : Array Value) (μ : Mu) (A A' : St) (w : World) (v : Value), P.funcs[g]? = some fn → fn.body.isSome = true → call fn g args A = some (v, A') →
    Sim B₀ w₀ A.ro μ A.get w → Free μ A.next A'.next → LR μ args.toList args'.toList →
    Calls P g args' w fun e w' => ∃ μ' v', e = .returned v' ∧ MExt μ μ' A.next A'.next ∧ Sim B₀ w₀ A.ro μ' A'.get w' ∧ VRel μ' v v'

/-- what is said of the functions without a body is so -/
structure ExtOK (P : Program) (X : Ext) : Prop where
  pure : ∀ (g : FuncId) (h : Array Value → Sem Value) (fn : Func), P.funcs[g]? = some fn → fn.body = none → X.pure g = some h → ∀ args w, (callFunc g args).run P w = ((h args).run P w).andThen fun v w => .ok (.value v) w
  clone : ∀ (g : FuncId) (fn : Func), P.funcs[g]? = some fn → fn.body = none → X.clone g = true → ∀ args w, (callFunc g args).run P w = ((Extern.MapsClone.clone args).run P w).andThen fun v w => .ok (.value v) w
  fn : ∀ (g : FuncId) (s : Known) (fn : Func), P.funcs[g]? = some fn → fn.body.isSome = true → X.fn g = some s → ∀ (B₀ : Nat) (w₀ : World) (args args' : Array Value) (μ : Mu) (A A' : St) (w : World) (v : Value), s.val args A = some (v, A') →
    Sim B₀ w₀ A.ro μ A.get w → Free μ A.next A'.next → LR μ args.toList args'.toList →
    Calls P g args' w fun e w' => ∃ μ' v', e = .returned v' ∧ MExt μ μ' A.next A'.next ∧ Sim B₀ w₀ A.ro μ' A'.get w' ∧ VRel μ' v v'
  num : ∀ (g : FuncId) (fn : Func), P.funcs[g]? = some fn → fn.body.isSome = true → (fn.name == "runtime.NumGoroutine") = false
  bits : ∀ (g : FuncId) (fn : Func), P.funcs[g]? = some fn → fn.body = none → X.bits g = true → ∀ args w, (callFunc g args).run P w = ((Extern.MathFloatBits.float64bits args).run P w).andThen fun v w => .ok (.value v) w

inductive OpOK (P : Program) (B₀ : Nat) (w₀ : World) (μ : Mu) (A A' : St) (s : Sem Next) (w : World) (v : Value) : Prop
  | value (h : ∃ μ' w' v', s.run P w = .ok (.value v') w' ∧ MExt μ μ' A.next A'.next ∧ Sim B₀ w₀ A.ro μ' A'.get w' ∧ VRel μ' v v')
  | skip (h : ∃ μ' w', s.run P w = .ok .skip w' ∧ MExt μ μ' A.next A'.next ∧ Sim B₀ w₀ A.ro μ' A'.get w') (hv : v = undef)
  | enter (h : ∃ g args', s.run P w = .ok (.enter g args') w ∧ Calls P g args' w fun e w' => ∃ μ' v', e = .returned v' ∧ MExt μ μ' A.next A'.next ∧ Sim B₀ w₀ A.ro μ' A'.get w' ∧ VRel μ' v v')

theorem OpOK.of_good {A' : St} {s : Sem Value} {v : Value} (h : Good P B₀ w₀ μ A A' s w v) : OpOK P B₀ w₀ μ A A' (do pure (.value (← s))) w v := by
  obtain ⟨μ', w', v', h1, h2, h3, h4⟩ := h
  exact .value ⟨μ', w', v', by simp only [Sem.run_bind, h1, Result.andThen_ok, Sem.run_pure], h2, h3, h4⟩

theorem OpOK.of_goodU {A' : St} {s : Sem Unit} (h : GoodU P B₀ w₀ μ A A' s w) : OpOK P B₀ w₀ μ A A' (do s; pure .skip) w undef := by
  obtain ⟨μ', w', h1, h2, h3⟩ := h
  exact .skip ⟨μ', w', by simp only [Sem.run_bind, h1, Result.andThen_ok, Sem.run_pure], h2, h3⟩ rfl

theorem OpOK.same {s : Sem Next} {v v' : Value} (hS : Sim B₀ w₀ A.ro μ A.get w) (h : s.run P w = .ok (.value v') w) (hv : VRel μ v v') : OpOK P B₀ w₀ μ A A s w v :=
  .value ⟨μ, w, v', h, MExt.refl _ _ _, hS, hv⟩

theorem aCall_ok {X : Ext} (hX : ExtOK P X) {call : Func → FuncId → Array Value → M Value} (hcall : CallOK P B₀ w₀ call) {f f' : Value} {args args' : Array Value} {v : Value} {A' : St}
    (hS : Sim B₀ w₀ A.ro μ A.get w) (h : aCall P X call f args A = some (v, A')) (hf : Free μ A.next A'.next) (hff : VRel μ f f') (ha : LR μ args.toList args'.toList) :
    OpOK P B₀ w₀ μ A A' (do let d ← Deferred.ofValue f' args'; invoke d.target d.args) w v := by
  unfold aCall at h
  simp only [bind_eq, opt_eq] at h
  obtain ⟨⟨g, all⟩, B1, ⟨h1, rfl⟩, fn, B2, ⟨h2, rfl⟩, h3⟩ := h
  unfold aCallee at h1
  split at h1
  · rename_i g' first captured
    simp only [Option.some.injEq, Prod.mk.injEq] at h1
    obtain ⟨rfl, rfl⟩ := h1
    obtain ⟨first', captured', rfl, hl1, hl2⟩ := hff.func_inv
    have hall : LR μ (first ++ args ++ captured).toList (first' ++ args' ++ captured').toList := by
      simp only [Array.toList_append]
      exact (hl1.append ha).append hl2
    have hred : ∀ w, (do let d ← Deferred.ofValue (.func (.func g') first' captured') args'; invoke d.target d.args : Sem Next).run P w = (callFunc g' (first' ++ args' ++ captured')).run P w := by
      intro w
      simp only [Deferred.ofValue, Sem.run_bind, Sem.run_pure, Result.andThen_ok, invoke]
    cases hb : fn.body with
    | some c =>
      rw [hb] at h3
      simp only at h3
      have hbs : fn.body.isSome = true := by rw [hb]; rfl
      have hent : (do let d ← Deferred.ofValue (.func (.func g') first' captured') args'; invoke d.target d.args : Sem Next).run P w = .ok (.enter g' (first' ++ args' ++ captured')) w := by
        rw [hred]
        simp only [callFunc, Sem.run_bind, run_program, Result.andThen_ok, h2, hX.num g' fn h2 hbs, Bool.false_eq_true, if_false, hb, Option.isNone_some, Sem.run_pure]
      cases hk : X.fn g' with
      | none =>
        rw [hk] at h3
        exact .enter ⟨g', _, hent, hcall fn g' _ _ μ A A' w v h2 hbs h3 hS hf hall⟩
      | some s =>
        rw [hk] at h3
        exact .enter ⟨g', _, hent, hX.fn g' s fn h2 hbs hk B₀ w₀ _ _ μ A A' w v h3 hS hf hall⟩
    | none =>
      rw [hb] at h3
      simp only at h3
      cases hc : X.clone g' with
      | true =>
        rw [hc] at h3
        simp only at h3
        obtain ⟨μ', w', v', k1, k2, k3, k4⟩ := aClone_good hS h3 hf hall
        refine .value ⟨μ', w', v', ?_, k2, k3, k4⟩
        rw [hred, hX.clone g' fn h2 hb hc, k1]
        rfl
      | false =>
        rw [hc] at h3
        simp only at h3
        cases hbt : (X.bits g' && isTok 6 (first ++ args ++ captured).toList) with
        | true =>
          rw [hbt] at h3
          simp only [ret_eq, Prod.mk.injEq] at h3
          obtain ⟨rfl, rfl⟩ := h3
          simp only [Bool.and_eq_true] at hbt
          obtain ⟨k1, k2⟩ := hbt
          unfold isTok at k2
          split at k2
          · rename_i s hs
            have hs6 := Nat.eq_of_beq_eq_true k2
            subst hs6
            rw [hs] at hall
            obtain ⟨y, hy, hrel⟩ := LR.one_inv hall
            obtain ⟨b, rfl, hb0⟩ := (tok_val hrel).2.2.1 rfl
            have ea : first' ++ args' ++ captured' = #[.float .f64 b] := Array.ext' hy
            refine OpOK.same hS (v' := .int .u64 b) ?_ (.unk rfl (Tag.tok (by decide) (by decide) ⟨fun e => by omega, fun e => by omega, fun e => by omega, fun e => by omega, fun e => by omega, fun _ => ⟨_, rfl, by omega⟩⟩))
            rw [hred, ea, hX.bits g' fn h2 hb k1]
            rfl
          · cases k2
        | false =>
        rw [hbt] at h3
        simp only [bind_eq, opt_eq] at h3
        obtain ⟨hp, B3, ⟨h4, rfl⟩, h5⟩ := h3
        split at h5
        · rename_i hg
          have e := hall.gr hg
          have e : first' ++ args' ++ captured' = first ++ args ++ captured := Array.ext' e
          rw [opt_eq] at h5
          obtain ⟨h6, rfl⟩ := h5
          obtain ⟨h7, h8⟩ := pureV_run h6
          refine OpOK.same hS ?_ (.of_gr h8)
          rw [hred, e, hX.pure g' hp fn h2 hb h4, h7]
          rfl
        · simp [fail_eq] at h5
  · cases h1

theorem aBuiltin_ok {b : Builtin} {argTypes : Array TypeId} {ty : TypeId} {consts : Array Bool} {args args' : Array Value} {v : Value} {A' : St} (hS : Sim B₀ w₀ A.ro μ A.get w)
    (h : aBuiltin P b argTypes args A = some (v, A')) (hf : Free μ A.next A'.next) (ha : LR μ args.toList args'.toList) : OpOK P B₀ w₀ μ A A' (builtin b argTypes ty consts args') w v := by
  have ints : args.toList.all isIntV = true → args' = args := by
    intro hi
    refine Array.ext' (ha.gr ?_)
    rw [List.all_eq_true] at hi ⊢
    intro x hx
    have := hi x hx
    cases x <;> simp [isIntV] at this
    rfl
  cases b <;> simp only [aBuiltin] at h <;> try (simp [fail_eq] at h; done)
  · exact OpOK.of_good (aAppend_good (ty := ty) hS h hf ha)
  · exact OpOK.of_good (aClear_good (ty := ty) hS h ha)
  · exact OpOK.of_good (aCopy_good (ty := ty) hS h ha)
  · exact OpOK.of_good (aDelete_good (ty := ty) hS h ha)
  · exact OpOK.of_good (aLenOp_good (ty := ty) hS h ha)
  · split at h
    · rename_i hi; rw [ints hi]; exact OpOK.of_good (s := Builtin.max_ argTypes ty args) (Good.pureV hS h)
    · simp [fail_eq] at h
  · split at h
    · rename_i hi; rw [ints hi]; exact OpOK.of_good (s := Builtin.min_ argTypes ty args) (Good.pureV hS h)
    · simp [fail_eq] at h

end
end Go.Det
