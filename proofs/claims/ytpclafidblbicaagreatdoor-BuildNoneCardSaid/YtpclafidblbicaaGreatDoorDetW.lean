/- The evaluator over all orders: it holds of the model. -/
import Derived.Test.YtpclafidblbicaaGreatDoorDetV
namespace Go.Det
open Go.RowKit (Below)

structure ManyOK (P : Program) (Y : FuncId → Option Many) : Prop where
  row : ∀ (g : FuncId) (s : Many), hasBody P g = true → Y g = some s → ∀ (B₀ : Nat) (w₀ : World) (args args' : Array Value) (μ : Mu) (A A1 : St) (w : World) (l : List Alt), s.h args A = some (l, A1) →
    Sim B₀ w₀ A.ro μ A.get w → LR μ args.toList args'.toList →
    Calls P g args' w fun e w' => ∃ k cs, Alt.row k cs ∈ l ∧ ∀ v A2, aRowK k cs A1 = some (v, A2) → Free μ A1.next A2.next →
      ∃ μ' v', e = .returned v' ∧ MExt μ μ' A1.next A2.next ∧ Sim B₀ w₀ A1.ro μ' A2.get w' ∧ VRel μ' v v'

section
variable {P : Program} {B₀ : Nat} {w₀ : World} {μ : Mu} {A A1 : St} {w : World}

theorem leftN_same {it : Value} {c : Nat} (h : leftN it A = some (c, A1)) : A1.get = A.get ∧ A1.next = A.next ∧ A1.ro = A.ro := by
  unfold leftN at h
  split at h
  · rename_i r
    simp only [bind_eq, rd_eq] at h
    obtain ⟨o, B1, ⟨h1, rfl⟩, h2⟩ := h
    split at h2
    · simp only [bind_eq, ret_eq, Prod.mk.injEq] at h2
      obtain ⟨⟨es, clock⟩, B2, h3, _, rfl⟩ := h2
      obtain ⟨_, rfl⟩ := rdMap_eq h3
      exact ⟨rfl, rfl, rfl⟩
    · simp only [ret_eq, Prod.mk.injEq] at h2
      obtain ⟨_, rfl⟩ := h2
      exact ⟨rfl, rfl, rfl⟩
  · simp only [ret_eq, Prod.mk.injEq] at h
    obtain ⟨_, rfl⟩ := h
    exact ⟨rfl, rfl, rfl⟩

theorem nextAlts_same {it : Value} {l : List Alt} (h : nextAlts it A = some (l, A1)) : A1.get = A.get ∧ A1.next = A.next ∧ A1.ro = A.ro := by
  unfold nextAlts at h
  simp only [bind_eq] at h
  obtain ⟨c, B1, h1, h2⟩ := h
  have hs := leftN_same h1
  have hB : A1 = B1 := by
    cases hq : Nat.ble c 1 with
    | true => rw [hq] at h2; simp only [ret_eq, Prod.mk.injEq] at h2; exact h2.2.symm
    | false => rw [hq] at h2; simp only [ret_eq, Prod.mk.injEq] at h2; exact h2.2.symm
  subst hB
  exact hs

theorem altsOf_same {k : AKind} {l : List Alt} (h : altsOf k A = some (l, A1)) : A1.get = A.get ∧ A1.next = A.next ∧ A1.ro = A.ro := by
  have one : ∀ {l' : List Alt}, (M.ret l' : M (List Alt)) A = some (l, A1) → A1.get = A.get ∧ A1.next = A.next ∧ A1.ro = A.ro := by
    intro l' h
    simp only [ret_eq, Prod.mk.injEq] at h
    obtain ⟨_, rfl⟩ := h
    exact ⟨rfl, rfl, rfl⟩
  cases k with
  | plain => exact one h
  | next it => exact nextAlts_same h
  | cmp => exact one h
  | len => exact one h
  | many s args => exact s.same _ _ _ _ h
  | enter g args => simp [altsOf, fail_eq] at h

theorem isI_rel {x x' : Value} (h : isI x = true) (r : VRel μ x x') : ∃ n, x' = .int .i64 n := by
  unfold isI at h
  split at h
  · rename_i n
    exact ⟨n, r.same 1 rfl⟩
  · unfold unkI at h
    split at h
    · rename_i k
      rcases (Bool.or_eq_true _ _).mp h with h | h
      · have := Nat.eq_of_beq_eq_true h
        subst this
        cases r with
        | ground n hg => cases n <;> simp [ground] at hg
        | unk _ ht => exact ht.1 rfl
      · simp only [Bool.and_eq_true, Nat.ble_eq, Nat.beq_eq] at h
        obtain ⟨b, β, S, _, rfl, _⟩ := sym_val h.1 r
        exact ⟨_, by unfold symV; rw [if_neg (by omega), if_pos h.2]⟩
    · cases h

theorem isT_rel {x x' : Value} (h : isT x = true) (r : VRel μ x x') : ∃ n, x' = .string n := by
  unfold isT at h
  split at h
  · rename_i n
    exact ⟨n, r.same 1 rfl⟩
  · unfold unkT at h
    split at h
    · rename_i k
      rcases (Bool.or_eq_true _ _).mp h with h | h
      · have := Nat.eq_of_beq_eq_true h
        subst this
        cases r with
        | ground n hg => cases n <;> simp [ground] at hg
        | unk _ ht => exact ht.2.1 rfl
      · simp only [Bool.and_eq_true, Nat.ble_eq, Nat.beq_eq] at h
        obtain ⟨b, β, S, _, rfl, _⟩ := sym_val h.1 r
        exact ⟨_, by unfold symV; rw [if_pos (by omega)]⟩
    · cases h

theorem cmp_run {op : BinOp} (hop : isCmp op = true) (t : TypeId) (ox oy : Operand) (n m : Int) (w : World) : ∃ b, ((do eqGuard op t ox oy (.int .i64 n) (.int .i64 m); binOp op t (.int .i64 n) (.int .i64 m)) : Sem Value).run P w = .ok (.bool b) w := by
  cases op <;> simp [isCmp] at hop <;> exact ⟨_, rfl⟩

theorem any_run {op : BinOp} {x y x' y' : Value} (h : anyCmp op x y = true) (hx : VRel μ x x') (hy : VRel μ y y') (t : TypeId) (ox oy : Operand) (w : World) :
    ∃ b, ((do eqGuard op t ox oy x' y'; binOp op t x' y') : Sem Value).run P w = .ok (.bool b) w := by
  unfold anyCmp at h
  split at h
  · rename_i hq
    simp only [Bool.and_eq_true] at hq
    obtain ⟨n1, rfl⟩ := isI_rel hq.1.1.1.2 hx
    obtain ⟨n2, rfl⟩ := isI_rel hq.1.1.2 hy
    exact cmp_run hq.1.1.1.1 t ox oy n1 n2 w
  · simp only [Bool.and_eq_true] at h
    obtain ⟨n1, rfl⟩ := isT_rel h.1.1.1.2 hx
    obtain ⟨n2, rfl⟩ := isT_rel h.1.1.2 hy
    have ho := h.1.1.1.1
    cases op <;> simp [isEq] at ho <;> exact ⟨_, rfl⟩

theorem next_some {it it' : Value} {c : Nat} (hS : Sim B₀ w₀ A.ro μ A.get w) (h : leftN it A = some (c, A1)) (hc : 2 ≤ c) (h0 : ∃ v A2, aNextAt it 0 A1 = some (v, A2)) (hi : VRel μ it it') (ty : TypeId) :
    ∃ i, i < c ∧ ∀ v A2, aNextAt it i A1 = some (v, A2) → Good P B₀ w₀ μ A1 A2 (Instr.next it' false ty) w v := by
  unfold leftN at h
  split at h
  · rename_i r
    simp only [bind_eq, rd_eq] at h
    obtain ⟨o, B1, ⟨h1, rfl⟩, h2⟩ := h
    split at h2
    · rename_i m since0 seen last
      simp only [bind_eq, ret_eq, Prod.mk.injEq] at h2
      obtain ⟨⟨es, clock⟩, B2, h3, hlen, rfl⟩ := h2
      obtain ⟨h5, rfl⟩ := rdMap_eq h3
      simp only at hlen
      cases hi with
      | ground n hg => cases n <;> simp [ground] at hg
      | @ptr id off b β S hmu =>
        obtain ⟨o', e1, e2⟩ := hS.at h1 hmu
        obtain ⟨m', rfl, rfl, e3⟩ := e2
        have hmm : ∃ bm βm Sm, m' = some bm ∧ μ m = some (bm, βm, Sm) := by
          rcases e3 with ⟨h, _⟩ | ⟨id2, b2, β2, S2, h, h', h''⟩
          · cases h
          · cases h; exact ⟨b2, β2, S2, h', h''⟩
        obtain ⟨bm, βm, Sm, rfl, hmu2⟩ := hmm
        have hSl : Sim B₀ w₀ (A.look r).ro μ (A.look r).get w := hS
        obtain ⟨es', e4, rfl, e5⟩ := hSl.map h5 hmu2
        have h1' : ((A.look r).look m).get r = some (.mapIter (some m) since0 seen last) := h1
        have h5' : ((A.look r).look m).get m = some (.map es clock) := h5
        have at_eq : ∀ i v A2, aNextAt (.pointer (some ⟨r, 0, none⟩)) i ((A.look r).look m) = some (v, A2) →
            ∃ e, (es.toList.filter fun e => !seen.contains e.born)[i]? = some e ∧ (∀ x ∈ es.toList, x.born < since0) ∧ since0 ≤ last ∧ r < lim ∧ A.ro ≤ r ∧
              v = .tuple #[.bool true, e.key, e.val] ∧ A2.next = A.next ∧ A2.ro = A.ro ∧ A2.get = (A.write r (some (.mapIter (some m) since0 (seen.push e.born) clock))).get := by
          intro i v A2 hA
          unfold aNextAt at hA
          simp only [bind_eq, rd_eq] at hA
          obtain ⟨o2, C1, ⟨g1, rfl⟩, g2⟩ := hA
          rw [h1'] at g1
          cases g1
          simp only [bind_eq] at g2
          obtain ⟨⟨es2, clock2⟩, C2, g3, g4⟩ := g2
          obtain ⟨g5, rfl⟩ := rdMap_eq g3
          have g5' : ((A.look r).look m).get m = some (.map es2 clock2) := g5
          rw [h5'] at g5'
          cases g5'
          simp only at g4
          generalize hq : (es.toList.all (fun e => Nat.blt e.born since0) && Nat.ble since0 last) = q at g4
          cases q with
          | false => simp [fail_eq] at g4
          | true =>
            simp only [bind_eq, opt_eq, wr_eq, ret_eq, Prod.mk.injEq] at g4
            obtain ⟨e, C3, ⟨g6, rfl⟩, u, C4, ⟨g7, g8, rfl⟩, rfl, rfl⟩ := g4
            simp only [Bool.and_eq_true, List.all_eq_true, Nat.blt_eq, Nat.ble_eq] at hq
            exact ⟨e, g6, hq.1, hq.2, g7, g8, rfl, rfl, rfl, rfl⟩
        obtain ⟨v0, A20, hv0⟩ := h0
        obtain ⟨_, _, hold, hsc, hl, hro, _⟩ := at_eq 0 v0 A20 hv0
        have hold' : ∀ x ∈ es'.toList, x.born < since0 := by
          have h1 : es.toList.all (fun e => decide (e.born < since0)) = true := List.all_eq_true.2 fun x hx => by simpa using hold x hx
          rw [e5.all (fun n => decide (n < since0))] at h1
          intro x hx
          have := List.all_eq_true.1 h1 x hx
          simpa using this
        have hfil := e5.filter (fun n => !seen.contains n)
        rcases run_next_at (P := P) w ty b bm since0 last seen es' clock e1 e4 hold' hsc with ⟨hz, _⟩ | ⟨e', he', w1, hw1, hrun⟩
        · exfalso
          have : (es'.toList.filter fun e => !seen.contains e.born).length = 0 := by
            have := hz
            unfold leftOf at this
            rw [← Array.length_toList, Array.toList_filter] at this
            exact this
          rw [← hfil.length, hlen] at this
          omega
        · have he2 : e' ∈ es'.toList.filter fun e => !seen.contains e.born := by
            unfold leftOf at he'
            rw [Array.toList_filter] at he'
            exact he'
          obtain ⟨i, hi⟩ := List.getElem?_of_mem he2
          have hilt : i < (es'.toList.filter fun e => !seen.contains e.born).length := (List.getElem?_eq_some_iff.1 hi).1
          refine ⟨i, by rw [← hfil.length, hlen] at hilt; exact hilt, fun v A2 hA => ?_⟩
          obtain ⟨e, k1, _, _, _, _, rfl, k2, k3, k4⟩ := at_eq i v A2 hA
          obtain ⟨e'', j1, j2, j3, j4⟩ := hfil.get? k1
          rw [hi] at j1
          cases j1
          have hg : Det.gr e.key = true := by
            have : ∀ {l l' : List MapEntry}, ER μ l l' → ∀ x ∈ l, Det.gr x.key = true := by
              intro l l' hr
              induction hr with
              | nil => intro x hx; cases hx
              | cons _ hg _ _ _ ih =>
                intro x hx
                rcases List.mem_cons.1 hx with rfl | hx
                · exact hg
                · exact ih x hx
            exact this hfil e (List.mem_of_getElem? k1)
          have hS1 : Sim B₀ w₀ A.ro μ A.get w1 := by
            rcases hw1 with rfl | rfl
            · exact hS
            · exact hS.drawn _
          have e11 : w1.heap[b]? = some (.mapIter (some bm) since0 seen last) := by rcases hw1 with rfl | rfl <;> exact e1
          refine ⟨μ, _, .tuple #[.bool true, e'.key, e'.val], hrun, MExt.refl _ _ _, ?_, ?_⟩
          · rw [k4]
            have := Sim.putObj (A := A) hS1 hl hro h1 hmu e11 (o2 := .mapIter (some m) since0 (seen.push e.born) clock) (o2' := .mapIter (some bm) since0 (seen.push e.born) clock) ⟨_, rfl, rfl, .inr ⟨m, bm, _, _, rfl, rfl, hmu2⟩⟩
            rw [← j3] at this
            rw [← j3]
            exact this
          · rw [j2]
            exact tup3 (.of_gr hg) j4.1 true
    · simp only [ret_eq, Prod.mk.injEq] at h2
      omega
  · simp only [ret_eq, Prod.mk.injEq] at h
    omega

/-- an operation that hands a value back, or calls -/
theorem op_value {ops : Array Oper} {o : Oper} {a : Act} {i : Nat} (hi : ops[i]? = some o) {Q : Exit → Act → World → Prop} {K : Act → World → Prop} (hwant : Region.wanted o (yielded ops a.tmps) = true) {r : Value} {w' : World}
    (hr : (execOp a.eval o).run P w = .ok (.value r) w') (hk : K (a.put o.dst r) w') : wpOp P ops Q i K a w := by
  unfold wpOp
  rw [hi]
  simp only
  rw [hwant]
  simp only [if_true]
  refine .inl ?_
  unfold Oper.wp
  rw [hr]
  exact hk

theorem op_enter {X : Ext} (hX : ExtOK P X) {ops : Array Oper} {o : Oper} {a : Act} {i : Nat} (hi : ops[i]? = some o) {Q : Exit → Act → World → Prop} {K : Act → World → Prop} (hwant : Region.wanted o (yielded ops a.tmps) = true) {c : Call} {g : FuncId}
    (hop : o.op = .call c) (hcal : c.callee = .value (.func g)) (hbd : hasBody P g = true) (hc : Calls P g (c.args.map a.eval) w fun e w' => ∃ v', e = .returned v' ∧ K (a.put o.dst v') w') : wpOp P ops Q i K a w := by
  unfold hasBody at hbd
  cases hfn : P.funcs[g]? with
  | none => rw [hfn] at hbd; cases hbd
  | some fn =>
    rw [hfn] at hbd
    simp only at hbd
    have hnone : fn.body.isNone = false := by cases hb : fn.body <;> simp_all
    have hev : a.eval (.func g) = .func (.func g) #[] #[] := rfl
    have hr : (execOp a.eval o).run P w = .ok (.enter g (#[] ++ c.args.map a.eval ++ #[])) w := by
      have e : execOp a.eval o = (do let d ← Deferred.ofValue (a.eval (.func g)) (c.args.map a.eval); invoke d.target d.args) := by simp only [execOp, hop, resolve, hcal]
      rw [e, hev]
      simp only [Deferred.ofValue, Sem.run_bind, Sem.run_pure, Result.andThen_ok, invoke]
      simp only [callFunc, Sem.run_bind, run_program, Result.andThen_ok, hfn, hX.num g fn hfn hbd, Bool.false_eq_true, if_false, hnone, Sem.run_pure]
    unfold wpOp
    rw [hi]
    simp only
    rw [hwant]
    simp only [if_true]
    refine .inl ?_
    unfold Oper.wp
    rw [hr, Array.append_empty, Array.empty_append]
    show Calls P g _ w _
    refine hc.mono ?_
    rintro e w' ⟨v', rfl, hk⟩
    exact hk

theorem args_map {n : Nat} {T : Tr Value} {a : Act} (hT : TRel μ n T a.tmps) (xs : Array Operand) : LR μ (xs.map (look T)).toList (xs.map a.eval).toList := by
  simp only [Array.toList_map]
  generalize xs.toList = xs
  induction xs with
  | nil => exact .nil
  | cons x xs ih => exact .cons (look_rel hT x) ih

/-- an operation in all its ways -/
theorem alts_ok {X : Ext} (hX : ExtOK P X) {Y : FuncId → Option Many} {Z : FuncId → Bool} (hY : ManyOK P Y) {call : Func → FuncId → Array Value → M Value} (hcall : CallOK P B₀ w₀ call) {ops : Array Oper} {n : Nat} {o : Oper} {T : Tr Value} {a : Act} {l : List Alt}
    (h : altsOf (altKind P Y Z ops o T) A = some (l, A1)) (hS : Sim B₀ w₀ A.ro μ A.get w) (hT : TRel μ n T a.tmps) {i : Nat} (hi : ops[i]? = some o) {Q : Exit → Act → World → Prop} {K : Act → World → Prop}
    (hall : ∀ c ∈ l, ∃ v A2, runAlt P X call ops o T c A1 = some (v, A2) ∧ Free μ A1.next A2.next ∧
      ∀ μ' w' v', MExt μ μ' A1.next A2.next → Sim B₀ w₀ A1.ro μ' A2.get w' → VRel μ' v v' → K (a.put o.dst v') w') : wpOp P ops Q i K a w := by
  have hsame := altsOf_same h
  have hS1 : Sim B₀ w₀ A1.ro μ A1.get w := by rw [hsame.1, hsame.2.2]; exact hS
  have plain : Alt.plain ∈ l → wpOp P ops Q i K a w := by
    intro hm
    obtain ⟨v, A2, h1, h2, h3⟩ := hall .plain hm
    exact step_ok hX hcall hS1 h1 h2 hT hi h3
  have one : (M.ret [Alt.plain] : M (List Alt)) A = some (l, A1) → wpOp P ops Q i K a w := by
    intro h
    simp only [ret_eq, Prod.mk.injEq] at h
    exact plain (by rw [← h.1]; simp)
  have val : ∀ v v', Alt.val v ∈ l → VRel μ v v' → K (a.put o.dst v') w := by
    intro v v' hm hv
    obtain ⟨v1, A2, h1, _, h3⟩ := hall (.val v) hm
    have h1' : (M.ret v : M Value) A1 = some (v1, A2) := h1
    simp only [ret_eq, Prod.mk.injEq] at h1'
    obtain ⟨rfl, rfl⟩ := h1'
    exact h3 μ w v' (MExt.refl _ _ _) hS1 hv
  rcases altKind_spec P Y Z ops o T with hk | ⟨hw, ⟨it, hop, hk⟩ | ⟨op, t, x, y, yt, hop, q1, hk⟩ | ⟨c, hop, hcal, hq, hk⟩ | ⟨c, g, s, hop, hcal, hbd, hs, hk⟩ | ⟨c, g, hop, hcal, hbd, hk⟩⟩
  · rw [hk] at h
    exact one h
  · have hg := want_ok hT hw
    rw [hk] at h
    have h : nextAlts (look T it) A = some (l, A1) := h
    unfold nextAlts at h
    simp only [bind_eq] at h
    obtain ⟨c, B1, h1, h2⟩ := h
    cases hc : Nat.ble c 1 with
    | true =>
      rw [hc] at h2
      simp only [ret_eq, Prod.mk.injEq] at h2
      exact plain (by rw [← h2.1]; simp)
    | false =>
      rw [hc] at h2
      simp only [ret_eq, Prod.mk.injEq] at h2
      obtain ⟨rfl, rfl⟩ := h2
      have hc2 : 2 ≤ c := by
        have : ¬ Nat.ble c 1 = true := by rw [hc]; simp
        rw [Nat.ble_eq] at this
        omega
      have run : ∀ j, runAlt P X call ops o T (.at j) = aNextAt (look T it) j := by
        intro j
        simp only [runAlt, hop]
      obtain ⟨j, hj, hgood⟩ := next_some (P := P) hS h1 hc2 (by
        obtain ⟨v, A2, k1, _⟩ := hall (.at 0) (List.mem_map.2 ⟨0, List.mem_range.2 (by omega), rfl⟩)
        rw [run] at k1
        exact ⟨v, A2, k1⟩) (look_rel hT it) o.type
      obtain ⟨v, A2, k1, k2, k3⟩ := hall (.at j) (List.mem_map.2 ⟨j, List.mem_range.2 hj, rfl⟩)
      rw [run] at k1
      obtain ⟨μ', w', v', r1, r2, r3, r4⟩ := hgood v A2 k1
      refine op_value (r := v') hi hg ?_ (k3 μ' w' v' r2 r3 r4)
      simp only [execOp, hop, Sem.run_bind, r1, Result.andThen_ok, Sem.run_pure]
  · have hg := want_ok hT hw
    rw [hk] at h
    have h : (M.ret [Alt.val (.bool true), Alt.val (.bool false)] : M (List Alt)) A = some (l, A1) := h
    simp only [ret_eq, Prod.mk.injEq] at h
    obtain ⟨b, hb⟩ := any_run (P := P) q1 (look_rel hT x) (look_rel hT y) t x y w
    have e : execOp a.eval o = (do pure (.value (← (do eqGuard op t x y (a.eval x) (a.eval y); binOp op t (a.eval x) (a.eval y))))) := by simp only [execOp, hop]
    refine op_value (r := .bool b) hi hg ?_ (val (.bool b) _ (by rw [← h.1]; cases b <;> simp) (.ground 1 rfl))
    rw [e, Sem.run_bind, hb]
    rfl
  · have hg := want_ok hT hw
    rw [hk] at h
    have h : (M.ret [Alt.val (.chan (some 2))] : M (List Alt)) A = some (l, A1) := h
    simp only [ret_eq, Prod.mk.injEq] at h
    unfold lenUnk at hq
    split at hq
    · rename_i t x hts hxs
      split at hq
      · rename_i hu
        have hx : ∃ s, a.eval x = .string s := by
          have r := look_rel hT x
          unfold unkS at hq
          split at hq
          · rename_i k hlk
            have := Nat.eq_of_beq_eq_true hq
            subst this
            rw [hlk] at r
            generalize a.eval x = z at r
            cases r with
            | ground n hg => cases n <;> simp [ground] at hg
            | unk _ ht => exact ht.2.1 rfl
          · cases hq
        obtain ⟨s, hs⟩ := hx
        have ea : c.args = #[x] := Array.ext' hxs
        have et : c.argTypes = #[t] := Array.ext' hts
        have hrun : (execOp a.eval o).run P w = .ok (.value (goInt s.size)) w := by
          simp only [execOp, hop, resolve, hcal, ea, et]
          simp [invoke, builtin, hs, Builtin.len_, Builtin.lenOf, run_underlying hu, Sem.run_bind, Result.andThen]
        exact op_value hi hg hrun (val (.chan (some 2)) _ (by rw [← h.1]; simp) (.unk rfl ⟨fun _ => ⟨_, rfl⟩, (fun h => by cases h), (fun h => absurd h (by decide)), Tok.small (by decide)⟩))
      · cases hq
    · cases hq
  · have hg := want_ok hT hw
    rw [hk] at h
    have h : s.h (c.args.map (look T)) A = some (l, A1) := h
    have hcalls := hY.row g s hbd hs B₀ w₀ _ _ μ A A1 w l h hS (args_map hT c.args)
    refine op_enter hX hi hg hop hcal hbd ?_
    refine hcalls.mono ?_
    rintro e w' ⟨k, cs, hm, hr⟩
    obtain ⟨v, A2, k1, k2, k3⟩ := hall (.row k cs) hm
    obtain ⟨μ', v', rfl, r1, r2, r3⟩ := hr v A2 k1 k2
    exact ⟨v', rfl, k3 μ' w' v' r1 r2 r3⟩
  · rw [hk] at h
    simp [altsOf, fail_eq] at h

/-! ### Behind -/
def Lands (B₀ : Nat) (w₀ : World) (n : Nat) (K : Out → Tr Value → M Value) (v : Value) (Af A : St) (μ : Mu) (d : List Deferred) (Q : Exit → Act → World → Prop) : Prop :=
  ∀ o T' A1 B μ' a' w', K o T' A1 = some (v, B) → B.get = Af.get → B.next = Af.next → A1.ro = A.ro → A.next ≤ A1.next → MExt μ μ' A.next A1.next → Sim B₀ w₀ A.ro μ' A1.get w' → TRel μ' n T' a'.tmps → a'.defers = d → Q (Out.toExit o) a' w'

theorem Lands.step {n : Nat} {K : Out → Tr Value → M Value} {v : Value} {Af Af' : St} {μ' : Mu} {d : List Deferred} {Q : Exit → Act → World → Prop} (h : Lands B₀ w₀ n K v Af A μ d Q) (e1 : A1.ro = A.ro) (e2 : A.next ≤ A1.next)
    (hx : MExt μ μ' A.next A1.next) (g1 : Af'.get = Af.get) (g2 : Af'.next = Af.next) : Lands B₀ w₀ n K v Af' A1 μ' d Q := by
  intro o T' A2 B μ2 a' w' h1 h2 h3 h4 h5 h6 h7 h8 h9
  exact h o T' A2 B μ2 a' w' h1 (h2.trans g1) (h3.trans g2) (h4.trans e1) (Nat.le_trans e2 h5) (hx.trans h6 e2 h5) (by rw [← e1]; exact h7) h8 h9

/-- a call, with what comes behind it -/
def CallCOK (P : Program) (B₀ : Nat) (w₀ : World) (callC : FuncId → Array Value → (Value → M Value) → M Value) : Prop :=
  ∀ (g : FuncId) (args args' : Array Value) (K : Value → M Value) (A Af : St) (v : Value) (μ : Mu) (w : World), (∀ u, Loc (K u)) → callC g args K A = some (v, Af) → Sim B₀ w₀ A.ro μ A.get w → Free μ A.next Af.next → LR μ args.toList args'.toList →
    ∀ R : Value → World → Prop, (∀ u A1 B μ' w' u', K u A1 = some (v, B) → B.get = Af.get → B.next = Af.next → A1.ro = A.ro → A.next ≤ A1.next → MExt μ μ' A.next A1.next → Sim B₀ w₀ A.ro μ' A1.get w' → VRel μ' u u' → R u' w') →
    Calls P g args' w fun e w' => ∃ u', e = .returned u' ∧ R u' w'

section
variable {X : Ext} {Y : FuncId → Option Many} {Z : FuncId → Bool} {call : Func → FuncId → Array Value → M Value} {callC : FuncId → Array Value → (Value → M Value) → M Value}

theorem stepsC_ok (hX : ExtOK P X) (hY : ManyOK P Y) (hcall : CallOK P B₀ w₀ call) (hloc : ∀ fn g args, Loc (call fn g args)) (hcc : CallCOK P B₀ w₀ callC) (hlc : ∀ g args K, (∀ v, Loc (K v)) → Loc (callC g args K)) {ops : Array Oper} {n : Nat} {Q : Exit → Act → World → Prop}
    {K : Out → Tr Value → M Value} (hK : ∀ o T, Loc (K o T)) {v : Value} {d : List Deferred} :
    ∀ (rest : List Oper) (i : Nat) (T : Tr Value) (a : Act) (A Af : St) (μ : Mu) (w : World), ops.toList.drop i = rest → stepsC P X Y Z call callC ops n rest T (K .normal) A = some (v, Af) → Sim B₀ w₀ A.ro μ A.get w → TRel μ n T a.tmps →
      Free μ A.next Af.next → a.defers = d → Lands B₀ w₀ n K v Af A μ d Q → wpOps P ops Q (List.range' i rest.length) a w
  | [], i, T, a, A, Af, μ, w, _, h, hS, hT, hf, hd, hQ => hQ .normal T A Af μ a w h rfl rfl rfl (Nat.le_refl _) (MExt.refl _ _ _) hS hT hd
  | o :: rest, i, T, a, A, Af, μ, w, hdr, h, hS, hT, hf, hd, hQ => by
    have hlt : i < ops.toList.length := by
      rcases Nat.lt_or_ge i ops.toList.length with hh | hh
      · exact hh
      · rw [List.drop_eq_nil_of_le hh] at hdr; cases hdr
    have hi : ops[i]? = some o := by
      rw [List.drop_eq_getElem_cons hlt] at hdr
      simp only [List.cons.injEq] at hdr
      have := hdr.1
      simp only [Array.getElem_toList] at this
      rw [Array.getElem?_eq_getElem (by simpa using hlt), this]
    have hdr' : ops.toList.drop (i + 1) = rest := by
      rw [List.drop_eq_getElem_cons hlt] at hdr
      simp only [List.cons.injEq] at hdr
      exact hdr.2
    have hdd : ∀ v', (a.put o.dst v').defers = d := fun v' => by rw [← hd]; cases o.dst <;> rfl
    have locs : ∀ T', Loc (stepsC P X Y Z call callC ops n rest T' (K .normal)) := fun T' => stepsC_loc P hloc hlc ops n rest T' (K .normal) (hK .normal)
    rw [List.length_cons, List.range'_succ, wpOps_cons]
    have plain : altsOf (altKind P Y Z ops o T) = altsOf (altKind P Y Z ops o T) → (∃ l A1, altsOf (altKind P Y Z ops o T) A = some (l, A1) ∧ forkM (fun c => do
        let v ← runAlt P X call ops o T c
        let T ← M.opt (put n T o.dst v)
        stepsC P X Y Z call callC ops n rest T (K .normal)) l A1 = some (v, Af)) → wpOp P ops Q i (wpOps P ops Q (List.range' (i + 1) rest.length)) a w := by
      rintro - ⟨l, A1, h1, h2⟩
      have hsame := altsOf_same h1
      have each := forkM_each (fun c => Loc.bind (runAlt_loc P hloc ops o T c) fun _ => Loc.bind (Loc.opt _) fun T' => locs T') l h2
      refine alts_ok hX hY hcall h1 hS hT hi fun c hc => ?_
      obtain ⟨B, k1, k2, k3⟩ := each c hc
      simp only [bind_eq, opt_eq] at k1
      obtain ⟨v1, A2, j1, T1, A3, ⟨j2, rfl⟩, j3⟩ := k1
      have m1 := (runAlt_loc P hloc ops o T c A1 v1 A2 j1).1
      have m2 := (locs T1 A2 v B j3).1
      have hB : B.next = Af.next := k3
      have hf1 : Free μ A1.next Af.next := by rw [hsame.2.1]; exact hf
      refine ⟨v1, A2, j1, hf1.sub (Nat.le_refl _) (by rw [← hB]; exact m2.next), fun μ' w' v' r1 r2 r3 => ?_⟩
      have hp := put_rel (hT.mono r1.1) j2 r3
      have hro : A2.ro = A1.ro := m1.ro
      exact stepsC_ok hX hY hcall hloc hcc hlc hK rest (i + 1) T1 (a.put o.dst v') A2 B μ' w' hdr' j3 (by rw [hro]; exact r2) hp (by rw [hB]; exact hf1.after r1 m1.next) (hdd v') (hQ.step (hro.trans hsame.2.2) (by rw [← hsame.2.1]; exact m1.next) (by rw [← hsame.2.1]; exact r1) k2 k3)
    unfold stepsC at h
    rcases altKind_spec P Y Z ops o T with hk | ⟨hw, ⟨it, hop, hk⟩ | ⟨op, t, x, y, yt, hop, q1, hk⟩ | ⟨c, hop, hcal, hq, hk⟩ | ⟨c, g, s, hop, hcal, hbd, hs, hk⟩ | ⟨c, g, hop, hcal, hbd, hk⟩⟩
    · refine plain rfl ?_
      rw [hk] at h ⊢
      simp only [bind_eq] at h
      simpa only [bind_eq] using h
    · refine plain rfl ?_
      rw [hk] at h ⊢
      simp only [bind_eq] at h
      simpa only [bind_eq] using h
    · refine plain rfl ?_
      rw [hk] at h ⊢
      simp only [bind_eq] at h
      simpa only [bind_eq] using h
    · refine plain rfl ?_
      rw [hk] at h ⊢
      simp only [bind_eq] at h
      simpa only [bind_eq] using h
    · refine plain rfl ?_
      rw [hk] at h ⊢
      simp only [bind_eq] at h
      simpa only [bind_eq] using h
    · have hwant := want_ok hT hw
      rw [hk] at h
      simp only at h
      refine op_enter hX hi hwant hop hcal hbd ?_
      refine hcc g _ _ _ A Af v μ w (fun u => Loc.bind (Loc.opt _) fun T' => locs T') h hS hf (args_map hT c.args) (fun u' w' => wpOps P ops Q (List.range' (i + 1) rest.length) (a.put o.dst u') w') ?_
      intro u A1 B μ' w' u' k1 k2 k3 k4 k5 k6 k7 k8
      simp only [bind_eq, opt_eq] at k1
      obtain ⟨T1, A3, ⟨j2, rfl⟩, j3⟩ := k1
      have hp := put_rel (hT.mono k6.1) j2 k8
      exact stepsC_ok hX hY hcall hloc hcc hlc hK rest (i + 1) T1 (a.put o.dst u') A1 B μ' w' hdr' j3 (by rw [k4]; exact k7) hp (by rw [k3]; exact hf.after k6 k5) (hdd u') (hQ.step k4 k5 k6 k2 k3)

theorem slot_put {n d : Nat} {T T' : Tr Value} {v : Value} (hn : n ≤ lim) (h : put n T (some d) v = some T') (t : Nat) : slot T' t = if t = d then v else slot T t := by
  unfold put at h
  simp only at h
  cases hb : Nat.blt d n with
  | false => rw [hb] at h; cases h
  | true =>
    rw [hb] at h
    simp only [Option.some.injEq] at h
    subst h
    unfold slot
    rw [Tr.get_set T d t _ (Nat.lt_of_lt_of_le (blt_iff.1 hb) hn)]
    split <;> rfl

theorem putAll_slot {n : Nat} (hn : n ≤ lim) {T' : Tr Value} : ∀ (ds : List Tmp) (T T2 : Tr Value), putAll n ds (ds.map (slot T')) T = some T2 → (∀ t, t ∉ ds → slot T t = slot T' t) → ∀ t, slot T2 t = slot T' t
  | [], T, T2, h, ho, t => by
    simp only [putAll, Option.some.injEq] at h
    subst h
    exact ho t (by simp)
  | d :: ds, T, T2, h, ho, t => by
    unfold putAll at h
    simp only [List.map_cons] at h
    cases h1 : put n T (some d) (slot T' d) with
    | none => rw [h1] at h; cases h
    | some T1 =>
      rw [h1] at h
      refine putAll_slot hn ds T1 T2 h (fun t ht => ?_) t
      rw [slot_put hn h1 t]
      by_cases e : t = d
      · rw [if_pos e, e]
      · rw [if_neg e]
        exact ho t (by simp [e, ht])

theorem anyS_ok (hX : ExtOK P X) (hcall : CallOK P B₀ w₀ call) (hloc : ∀ fn g args, Loc (call fn g args)) {ops : Array Oper} {n : Nat} {Q : Exit → Act → World → Prop} {K : Array Bool → Tr Value → M Value} (hK : ∀ l T, Loc (K l T)) {v : Value} {d : List Deferred} {F : Nat} :
    ∀ (f : Nat) (listed : Array Bool) (T : Tr Value) (a : Act) (A Af : St) (μ : Mu) (w : World), anyS P X call ops n f listed T K A = some (v, Af) → Sim B₀ w₀ A.ro μ A.get w → TRel μ n T a.tmps →
      Free μ A.next Af.next → a.defers = d →
      (∀ l' T' A1 B μ' a' w', K l' T' A1 = some (v, B) → B.get = Af.get → B.next = Af.next → A1.ro = A.ro → A.next ≤ A1.next → MExt μ μ' A.next A1.next → Sim B₀ w₀ A.ro μ' A1.get w' → TRel μ' n T' a'.tmps → a'.defers = d →
        (∀ t, t ∉ dstsOf ops → slot T' t = slot T t) → wpAny P .any ops Q F l' a' w') →
      wpAny P .any ops Q (F + f) listed a w
  | 0, listed, T, a, A, Af, μ, w, h, hS, hT, hf, hd, hQ => hQ listed T A Af μ a w h rfl rfl rfl (Nat.le_refl _) (MExt.refl _ _ _) hS hT hd fun _ _ => rfl
  | f + 1, listed, T, a, A, Af, μ, w, h, hS, hT, hf, hd, hQ => by
    unfold anyS at h
    cases hr : Region.ready .any ops listed with
    | nil => rw [hr] at h; simp [fail_eq] at h
    | cons i0 l0 =>
      rw [hr] at h
      refine ⟨fun h0 => (by rw [h0] at hr; cases hr), fun i hi => ?_⟩
      rw [hr] at hi
      obtain ⟨B, k1, k2, k3⟩ := forkM_each (fun i => Loc.bind (Loc.opt _) fun o => Loc.bind (step_loc P hloc ops o T) fun _ => Loc.bind (Loc.opt _) fun T' => anyS_loc P hloc ops n f _ T' K hK) _ h i hi
      simp only [bind_eq, opt_eq] at k1
      obtain ⟨o, A0, ⟨j0, rfl⟩, v1, A2, j1, T1, A3, ⟨j2, rfl⟩, j3⟩ := k1
      have m1 := (step_loc P hloc ops o T A v1 A2 j1).1
      have m2 := (anyS_loc P hloc ops n f _ T1 K hK A2 v B j3).1
      refine step_ok hX hcall hS j1 (hf.sub (Nat.le_refl _) (by rw [← k3]; exact m2.next)) hT j0 fun μ' w' v' r1 r2 r3 => ?_
      have hp := put_rel (hT.mono r1.1) j2 r3
      refine anyS_ok hX hcall hloc hK f _ T1 (a.put o.dst v') A2 B μ' w' j3 (by rw [m1.ro]; exact r2) hp (by rw [k3]; exact hf.after r1 m1.next) ((show (a.put o.dst v').defers = a.defers by cases o.dst <;> rfl).trans hd) ?_
      intro l' T' A1 B' μ2 a' w2 q1 q2 q3 q4 q5 q6 q7 q8 q9 q10
      refine hQ l' T' A1 B' μ2 a' w2 q1 (q2.trans k2) (q3.trans k3) (q4.trans m1.ro) (Nat.le_trans m1.next q5) (r1.trans q6 m1.next q5) (by rw [← m1.ro]; exact q7) q8 q9 fun t ht => (q10 t ht).trans ?_
      cases hdst : o.dst with
      | none =>
        rw [hdst] at j2
        simp only [put, Option.some.injEq] at j2
        rw [j2]
      | some dd =>
        rw [hdst] at j2
        rw [slot_put hT.small j2 t, if_neg]
        rintro rfl
        refine ht (List.mem_filterMap.2 ⟨o, ?_, hdst⟩)
        exact Array.mem_toList_iff.2 (Array.mem_of_getElem? j0)

theorem anyPh_ok (hX : ExtOK P X) (hcall : CallOK P B₀ w₀ call) (hloc : ∀ fn g args, Loc (call fn g args)) {ops : Array Oper} {n : Nat} {Q : Exit → Act → World → Prop} {K : Out → Tr Value → M Value} (hK : ∀ o T, Loc (K o T)) {v : Value} {d : List Deferred} :
    ∀ (fs : List Nat) (k : Nat) (listed : Array Bool) (T : Tr Value) (a : Act) (A Af : St) (μ : Mu) (w : World) (F : Nat), anyPh P X call ops n fs k listed T (K .normal) A = some (v, Af) → Sim B₀ w₀ A.ro μ A.get w → TRel μ n T a.tmps →
      Free μ A.next Af.next → a.defers = d → Lands B₀ w₀ n K v Af A μ d Q → fs.sum ≤ F → wpAny P .any ops Q F listed a w
  | [], k, listed, T, a, A, Af, μ, w, F, h, hS, hT, hf, hd, hQ, _ => by
    unfold anyPh at h
    cases hr : Region.ready .any ops listed with
    | nil =>
      rw [hr] at h
      have hq := hQ .normal T A Af μ a w h rfl rfl rfl (Nat.le_refl _) (MExt.refl _ _ _) hS hT hd
      cases F with
      | zero => exact ⟨hr, hq⟩
      | succ F => exact ⟨fun _ => hq, fun i hi => by rw [hr] at hi; cases hi⟩
    | cons i0 l0 => rw [hr] at h; simp [fail_eq] at h
  | f :: fs, k, listed, T, a, A, Af, μ, w, F, h, hS, hT, hf, hd, hQ, hF => by
    obtain ⟨F', rfl⟩ : ∃ F', F = F' + f := ⟨F - f, by simp only [List.sum_cons] at hF; omega⟩
    simp only [List.sum_cons] at hF
    unfold anyPh at h
    simp only [bind_eq, opt_eq] at h
    obtain ⟨r, A1, h1, T2, A2, ⟨h2, rfl⟩, h3⟩ := h
    rw [meas_eq] at h1
    obtain ⟨B0, h4, _, _, rfl⟩ := h1
    have m2 := (anyPh_loc P hloc ops n fs _ _ T2 (K .normal) (hK .normal) _ v Af h3).1
    have m2n : B0.next ≤ Af.next := m2.next
    refine anyS_ok hX hcall hloc (fun l T => packK_loc ops _ l T) f listed T a { A with R := 0, W := 0 } B0 μ w h4 hS hT (hf.sub (Nat.le_refl _) m2n) hd ?_
    intro l' T' A3 B μ' a' w' q1 q2 q3 q4 q5 q6 q7 q8 q9 q10
    unfold packK at q1
    generalize he : sameL (fun a b : Bool => a == b) l'.toList (firstK (k + f) ops.size).toList = c at q1
    cases c with
    | false => simp [fail_eq] at q1
    | true =>
      simp only [ret_eq, Prod.mk.injEq] at q1
      obtain ⟨q1, rfl⟩ := q1
      have hl : l' = firstK (k + f) ops.size := Array.ext' (sameL_eq (fun a b e => by simpa using e) he)
      subst hl
      rw [← q1] at h2
      have hsl := putAll_slot hT.small (dstsOf ops) T T2 h2 fun t ht => (q10 t ht).symm
      have hT2 : TRel μ' n T2 a'.tmps := ⟨q8.size, q8.small, fun t => by rw [hsl t]; exact q8.rel t⟩
      have q5' : A.next ≤ B0.next := by rw [← q3]; exact q5
      have q6' : MExt μ μ' A.next B0.next := by rw [← q3]; exact q6
      have ro0 : B0.ro = A.ro := (anyS_loc P hloc ops n f _ T _ (fun l T => packK_loc ops _ l T) _ _ _ h4).1.ro
      have g0 : Sim B₀ w₀ A.ro μ' B0.get w' := by rw [← q2]; exact q7
      exact anyPh_ok hX hcall hloc hK fs (k + f) _ T2 a' _ Af μ' w' F' h3 (by rw [show _ = A.ro from ro0]; exact g0) hT2 (hf.after q6' q5') q9 (hQ.step ro0 q5' q6' rfl rfl) (by omega)

theorem phases_sum (n : Nat) : (phases n).sum = n := by
  unfold phases
  split
  · rename_i h
    have := Nat.eq_of_beq_eq_true h
    subst this
    rfl
  · simp

theorem regC_ok (hmix : P.follows .mixedOrders = true) (hX : ExtOK P X) (hY : ManyOK P Y) (hcall : CallOK P B₀ w₀ call) (hloc : ∀ fn g args, Loc (call fn g args)) (hcc : CallCOK P B₀ w₀ callC) (hlc : ∀ g args K, (∀ v, Loc (K v)) → Loc (callC g args K)) {id : Nat} {ops : Array Oper} {draw : Bool} {n : Nat} {Q : Exit → Act → World → Prop} {K : Out → Tr Value → M Value}
    (hK : ∀ o T, Loc (K o T)) {v : Value} {T : Tr Value} {a : Act} {A Af : St} {μ : Mu} {w : World} (h : evalRegC P X Y Z call callC ops draw n T (K .normal) A = some (v, Af)) (hS : Sim B₀ w₀ A.ro μ A.get w) (hT : TRel μ n T a.tmps)
    (hf : Free μ A.next Af.next) (hQ : Lands B₀ w₀ n K v Af A μ a.defers Q) : (Code.region id ops draw).wp P Q a w := by
  unfold evalRegC at h
  cases draw with
  | false =>
    simp only at h
    refine wp_region ?_
    have := stepsC_ok hX hY hcall hloc hcc hlc hK ops.toList 0 T a A Af μ w rfl h hS hT hf rfl hQ
    rw [Array.length_toList, ← List.range_eq_range'] at this
    exact this
  | true =>
    simp only at h
    generalize ops.toList.any isMapEntry = q at h
    cases q with
    | true =>
      refine wp_region_any hmix ?_
      exact anyPh_ok hX hcall hloc hK (phases ops.size) 0 _ T a A Af μ _ ops.size h (hS.drawn _) hT hf rfl hQ (by rw [phases_sum]; exact Nat.le_refl _)
    | false =>
      simp only [bind_eq] at h
      obtain ⟨T1, A1, h1, h2⟩ := h
      have m1 := (evalRegion_loc P hloc ops true n T A T1 A1 h1).1
      have m2 := (hK .normal T1 A1 v Af h2).1
      refine region_ok hmix hX hcall hloc h1 hS hT (hf.sub (Nat.le_refl _) m2.next) fun μ' a' w' k1 k2 k3 k4 => ?_
      exact hQ .normal T1 A1 Af μ' a' w' h2 rfl rfl m1.ro m1.next k1 k2 k3 k4

def CodeCOK (P : Program) (X : Ext) (Y : FuncId → Option Many) (Z : FuncId → Bool) (B₀ : Nat) (w₀ : World) (k : Nat) : Prop :=
  ∀ (c : Code) (n : Nat) (T : Tr Value) (K : Out → Tr Value → M Value) (A Af : St) (v : Value) (μ : Mu) (a : Act) (w : World), (∀ o T, Loc (K o T)) → evalC P X Y Z k c n T K A = some (v, Af) → Sim B₀ w₀ A.ro μ A.get w → TRel μ n T a.tmps →
    Free μ A.next Af.next → ∀ Q : Exit → Act → World → Prop, Lands B₀ w₀ n K v Af A μ a.defers Q → c.wp P Q a w

theorem enterC_ok {k : Nat} (h : CodeCOK P X Y Z B₀ w₀ k) : CallCOK P B₀ w₀ (enterC P (evalC P X Y Z k)) := by
  intro g args args' K A Af v μ w hK he hS hf ha R hR
  unfold enterC at he
  cases hfn : P.funcs[g]? with
  | none => rw [hfn] at he; simp [fail_eq] at he
  | some fn =>
    rw [hfn] at he
    simp only at he
    cases hb : fn.body with
    | none => rw [hb] at he; simp [fail_eq] at he
    | some c =>
      rw [hb] at he
      simp only at he
      split at he
      · rename_i hsz
        refine calls_of_wp hfn hb ?_
        refine h c fn.ntmps _ _ A Af v μ { tmps := args' ++ Array.replicate (fn.ntmps - args'.size) undef, defers := [] } w (fun o T => ?_) he hS (args_rel ha hsz.1 hsz.2) hf _ ?_
        · split
          · exact Loc.bind (aResults_loc P _ T) hK
          · exact Loc.bind (aResults_loc P _ T) hK
          · exact Loc.fail
        · intro o T' A1 B μ' a' w' k1 k2 k3 k4 k5 k6 k7 k8 k9
          have hres : (∃ v1 A2, aResults P fn T' A1 = some (v1, A2) ∧ K v1 A2 = some (v, B)) ∧ (o = .normal ∨ o = .ret) := by
            cases o with
            | normal => simp only [bind_eq] at k1; exact ⟨k1, .inl rfl⟩
            | ret => simp only [bind_eq] at k1; exact ⟨k1, .inr rfl⟩
            | exit id => simp [fail_eq] at k1
            | goto l => simp [fail_eq] at k1
          obtain ⟨⟨v1, A2, h7, h8⟩, hout⟩ := hres
          have hS1 : Sim B₀ w₀ A1.ro μ' A1.get w' := by rw [k4]; exact k7
          obtain ⟨v', j1, j2, j3, j4, j5⟩ := aResults_run (P := P) (fn := fn) k8 hS1 h7
          have hr : R v' w' := hR v1 A2 B μ' w' v' h8 k2 k3 (j5.trans k4) (by rw [j4]; exact k5) (by rw [j4]; exact k6) (by rw [j3]; exact k7) j2
          have post : a'.defers = [] ∧ ∃ r', (results fn a'.tmps).run P w' = .ok r' w' ∧ ∃ u', Ending.returned r' = .returned u' ∧ R u' w' := ⟨k9, v', j1, v', rfl, hr⟩
          rcases hout with rfl | rfl
          · exact post
          · exact post
      · simp [fail_eq] at he

theorem codeC_ok (hmix : P.follows .mixedOrders = true) (hX : ExtOK P X) (hY : ManyOK P Y) : ∀ k, CodeCOK P X Y Z B₀ w₀ k ∧
    (∀ (c : Code) (n : Nat) (T : Tr Value) (K : Out → Tr Value → M Value) (A Af : St) (v : Value) (μ : Mu) (a : Act) (w : World), (∀ o T, Loc (K o T)) → evalC P X Y Z k (.loop c) n T K A = some (v, Af) → Sim B₀ w₀ A.ro μ A.get w → TRel μ n T a.tmps →
      Free μ A.next Af.next → ∀ Q : Exit → Act → World → Prop, Lands B₀ w₀ n K v Af A μ a.defers Q → Code.rounds P c Q k a w) := by
  intro k
  induction k with
  | zero =>
    refine ⟨fun c n T K A Af v μ a w _ h => ?_, fun c n T K A Af v μ a w _ h => ?_⟩ <;> simp [evalC, fail_eq] at h
  | succ k ih =>
    obtain ⟨ih1, ih2⟩ := ih
    -- behind a part
    have go : ∀ (A A1 Af B : St) (μ μ' : Mu) (v : Value) (K : Out → Tr Value → M Value), Free μ A.next Af.next → B.next = Af.next → MExt μ μ' A.next A1.next → A.next ≤ A1.next → Free μ' A1.next B.next :=
      fun A A1 Af B μ μ' v K hf hB hx hn => by rw [hB]; exact hf.after hx hn
    have loops : ∀ (c : Code) (n : Nat) (T : Tr Value) (K : Out → Tr Value → M Value) (A Af : St) (v : Value) (μ : Mu) (a : Act) (w : World), (∀ o T, Loc (K o T)) → evalC P X Y Z (k + 1) (.loop c) n T K A = some (v, Af) → Sim B₀ w₀ A.ro μ A.get w → TRel μ n T a.tmps →
        Free μ A.next Af.next → ∀ Q : Exit → Act → World → Prop, Lands B₀ w₀ n K v Af A μ a.defers Q → Code.rounds P c Q (k + 1) a w := by
      intro c n T K A Af v μ a w hK h hS hT hf Q hQ
      unfold evalC at h
      rw [rounds_succ]
      refine ih1 c n T _ A Af v μ a w (fun o T => ?_) h hS hT hf _ ?_
      · split
        · exact evalC_loc P X Y Z k _ n T K hK
        · exact hK _ _
      · intro o T' A1 B μ' a' w' h1 h2 h3 h4 h5 h6 h7 h8 h9
        cases o with
        | normal => exact ih2 c n T' K A1 B v μ' a' w' hK h1 (by rw [h4]; exact h7) h8 (go A A1 Af B μ μ' v K hf h3 h6 h5) Q (by rw [h9]; exact hQ.step h4 h5 h6 h2 h3)
        | exit id => exact hQ (.exit id) T' A1 B μ' a' w' h1 h2 h3 h4 h5 h6 h7 h8 h9
        | ret => exact hQ .ret T' A1 B μ' a' w' h1 h2 h3 h4 h5 h6 h7 h8 h9
        | goto t => exact hQ (.goto t) T' A1 B μ' a' w' h1 h2 h3 h4 h5 h6 h7 h8 h9
    refine ⟨?_, loops⟩
    intro c n T K A Af v μ a w hK h hS hT hf Q hQ
    have now : ∀ o, K o T A = some (v, Af) → Q (Out.toExit o) a w := fun o h => hQ o T A Af μ a w h rfl rfl rfl (Nat.le_refl _) (MExt.refl _ _ _) hS hT rfl
    cases c with
    | loop c => exact wp_loop_rounds (k + 1) (loops c n T K A Af v μ a w hK h hS hT hf Q hQ)
    | skip => exact wp_skip (now .normal h)
    | label l => exact wp_label (now .normal h)
    | ret => exact wp_ret (now .ret h)
    | exit id => exact wp_exit (now (.exit id) h)
    | goto l => exact wp_goto (now (.goto l) h)
    | seq x y =>
      unfold evalC at h
      refine wp_seq ?_
      refine ih1 x n T _ A Af v μ a w (fun o T => ?_) h hS hT hf _ ?_
      · split
        · exact evalC_loc P X Y Z k _ n T K hK
        · exact hK _ _
      · intro o T' A1 B μ' a' w' h1 h2 h3 h4 h5 h6 h7 h8 h9
        cases o with
        | normal => exact ih1 y n T' K A1 B v μ' a' w' hK h1 (by rw [h4]; exact h7) h8 (go A A1 Af B μ μ' v K hf h3 h6 h5) Q (by rw [h9]; exact hQ.step h4 h5 h6 h2 h3)
        | exit id => exact hQ (.exit id) T' A1 B μ' a' w' h1 h2 h3 h4 h5 h6 h7 h8 h9
        | ret => exact hQ .ret T' A1 B μ' a' w' h1 h2 h3 h4 h5 h6 h7 h8 h9
        | goto t => exact hQ (.goto t) T' A1 B μ' a' w' h1 h2 h3 h4 h5 h6 h7 h8 h9
    | cond cnd x y =>
      simp only [evalC] at h
      have hl := look_rel hT cnd
      generalize look T cnd = q at h hl
      cases q with
      | bool t =>
        cases t with
        | true => exact wp_cond_true (hl.same 1 rfl) (ih1 x n T K A Af v μ a w hK h hS hT hf Q hQ)
        | false => exact wp_cond_false (hl.same 1 rfl) (ih1 y n T K A Af v μ a w hK h hS hT hf Q hQ)
      | _ => simp [fail_eq] at h
    | block id x =>
      unfold evalC at h
      refine wp_block ?_
      refine ih1 x n T _ A Af v μ a w (fun o T => ?_) h hS hT hf _ ?_
      · split
        · split
          · exact hK _ _
          · exact hK _ _
        · exact hK _ _
      · intro o T' A1 B μ' a' w' h1 h2 h3 h4 h5 h6 h7 h8 h9
        cases o with
        | normal => exact hQ .normal T' A1 B μ' a' w' h1 h2 h3 h4 h5 h6 h7 h8 h9
        | ret => exact hQ .ret T' A1 B μ' a' w' h1 h2 h3 h4 h5 h6 h7 h8 h9
        | goto t => exact hQ (.goto t) T' A1 B μ' a' w' h1 h2 h3 h4 h5 h6 h7 h8 h9
        | exit id' =>
          show (if id' = id then Q .normal a' w' else Q (.exit id') a' w')
          by_cases he : id' = id
          · rw [if_pos he]
            simp only [if_pos he] at h1
            exact hQ .normal T' A1 B μ' a' w' h1 h2 h3 h4 h5 h6 h7 h8 h9
          · rw [if_neg he]
            simp only [if_neg he] at h1
            exact hQ (.exit id') T' A1 B μ' a' w' h1 h2 h3 h4 h5 h6 h7 h8 h9
    | region id ops draw =>
      unfold evalC at h
      exact regC_ok hmix hX hY (call_ok (code_ok hmix hX k).1) (fun fn g args => enter_loc P (evalCode_loc P X k) fn g args) (enterC_ok ih1) (fun g args K hK => enterC_loc P (evalC_loc P X Y Z k) g args K hK) hK h hS hT hf hQ
    | scope x => simp [evalC, fail_eq] at h
    | rangeFunc f ps x y => simp [evalC, fail_eq] at h
    | refuse why => simp [evalC, fail_eq] at h

end

/-! ### A call -/
theorem settle_ok {n0 gap : Nat} {v v' u : Value} {B : St} (h : settle n0 gap v A = some (u, B)) (hS : Sim B₀ w₀ A.ro μ A.get w) (hv : VRel μ v v') (hf : Free μ A.next B.next) :
    ∃ μ', MExt μ μ' A.next B.next ∧ Sim B₀ w₀ A.ro μ' B.get w ∧ VRel μ' u v' := by
  unfold settle at h
  generalize hg : gr v = q at h
  cases q with
  | true =>
    simp only [bind_eq, wipe_eq, ret_eq, Prod.mk.injEq] at h
    obtain ⟨_, C, ⟨⟨_, _, h3, _⟩, rfl⟩, rfl, rfl⟩ := h
    refine ⟨μ, MExt.refl _ _ _, hS.sub fun id o ho => ?_, hv⟩
    rw [St.wiped_get A h3] at ho
    split at ho
    · cases ho
    · exact ho
  | false =>
    simp only at h
    split at h
    · rename_i id k len cap
      generalize hid : (Nat.ble n0 id && Nat.blt id (n0 + gap)) = q at h
      cases q with
      | false => simp [fail_eq] at h
      | true =>
        simp only [Bool.and_eq_true, Nat.ble_eq, Nat.blt_eq] at hid
        simp only [bind_eq, rd_eq] at h
        obtain ⟨o, C1, ⟨h1, rfl⟩, h2⟩ := h
        split at h2
        · rename_i c e fz
          generalize hcg : c.toList.all Det.gr = q at h2
          cases q with
          | false => simp [fail_eq] at h2
          | true =>
            simp only [bind_eq, wipe_eq, al_eq, ret_eq, Prod.mk.injEq] at h2
            obtain ⟨_, C2, ⟨⟨w1, w2, w3, w4⟩, rfl⟩, id2, C3, ⟨a1, a2, rfl, rfl⟩, rfl, rfl⟩ := h2
            have w2' : A.next ≤ n0 + gap := w2
            have w4' : A.ro ≤ n0 := w4
            cases hv with
            | ground m hgr => cases m <;> simp [ground] at hgr
            | @soft _ _ b β S _ _ _ cap' a' hmu hl ha hs =>
              obtain ⟨o', q1, q2⟩ := hS.at h1 hmu
              have hN : ((A.look id).wiped n0 gap).next = n0 + gap := rfl
              have hfree : μ (n0 + gap) = none := hf _ w2' (by show n0 + gap < (n0 + gap) + 1; omega)
              have hget : ∀ x, (((A.look id).wiped n0 gap).alloc (.cells c 0 (0, 0))).get x = if x = n0 + gap then some (.cells c 0 (0, 0)) else if n0 ≤ x ∧ x < n0 + gap then none else A.get x := by
                intro x
                rw [St.alloc_get _ _ _ a1, hN, St.wiped_get _ w3]
                rfl
              refine ⟨μ.add (n0 + gap) (b, β, S), ⟨Mu.add_le hfree, fun x hx hn => ?_⟩, ?_, ?_⟩
              · unfold Mu.add
                rw [if_neg]
                · exact hx
                · intro e
                  refine hn ⟨by omega, ?_⟩
                  show x < (n0 + gap) + 1
                  omega
              · refine hS.upd (n0 + gap) b β S (.cells c 0 (0, 0)) o' (Mu.add_le hfree) ?_ (Mu.add_self _ _ _) ?_ ?_ ?_ (fun _ _ _ => rfl) q1 ?_ ?_ rfl rfl rfl (Nat.le_refl _) (hS.top _ _ _ _ hmu)
                · intro x p hne hp
                  unfold Mu.add at hp
                  rw [if_neg hne] at hp
                  exact hp
                · intro x o hne ho
                  rw [hget, if_neg hne] at ho
                  split at ho
                  · cases ho
                  · exact ho
                · rw [hget, if_pos rfl]
                · intro x o β' S' hne ho hmx
                  rw [hget, if_neg hne] at ho
                  split at ho
                  · cases ho
                  · rename_i hr
                    have := hS.inj x id o _ b β' S' β S ho h1 hmx hmu
                    subst this
                    exact hr hid
                · obtain ⟨g0, c', e', lo, hi, g1, g2, g3, g4, g5⟩ := q2
                  exact ⟨(fun h => absurd h (by simp)), c', e', lo, hi, g1, g2, g3, g4, g5.mono (Mu.add_le hfree)⟩
                · exact hS.low id b β S (Nat.le_trans w4' hid.1) hmu
              · rw [hN]
                exact .soft (Mu.add_self _ _ _) hl ha hs
        · simp [fail_eq] at h2
    · simp [fail_eq] at h

theorem forkCall_ok (hmix : P.follows .mixedOrders = true) {X : Ext} (hX : ExtOK P X) {Y : FuncId → Option Many} {Z : FuncId → Bool} (hY : ManyOK P Y) {k gap : Nat} {g : FuncId} {fn : Func} (hfn : P.funcs[g]? = some fn) {args args' : Array Value} {v : Value} {A' : St}
    (h : forkCall P X Y Z k gap g args A = some (v, A')) (hS : Sim B₀ w₀ A.ro μ A.get w) (hf : Free μ A.next A'.next) (ha : LR μ args.toList args'.toList) :
    Calls P g args' w fun e w' => ∃ μ' v', e = .returned v' ∧ MExt μ μ' A.next A'.next ∧ Sim B₀ w₀ A.ro μ' A'.get w' ∧ VRel μ' v v' := by
  unfold forkCall at h
  simp only [bind_eq, opt_eq] at h
  obtain ⟨fn', B0, ⟨h1, rfl⟩, h2⟩ := h
  rw [hfn] at h1
  cases h1
  cases hb : fn.body with
  | none => rw [hb] at h2; simp [fail_eq] at h2
  | some c =>
    rw [hb] at h2
    simp only at h2
    split at h2
    · rename_i hsz
      simp only [bind_eq] at h2
      obtain ⟨n0, B1, h3, r, B2, h4, h5⟩ := h2
      cases h3
      rw [meas_eq] at h4
      obtain ⟨B3, h6, _, _, rfl⟩ := h4
      simp only [ret_eq, Prod.mk.injEq] at h5
      obtain ⟨rfl, rfl⟩ := h5
      refine calls_of_wp hfn hb ?_
      refine (codeC_ok (B₀ := B₀) (w₀ := w₀) hmix hX hY k).1 c fn.ntmps _ _ _ B3 r.1 μ { tmps := args' ++ Array.replicate (fn.ntmps - args'.size) undef, defers := [] } w (fun o T => finish_loc P fn _ _ o T) h6 hS (args_rel ha hsz.1 hsz.2) hf _ ?_
      intro o T' A1 B μ' a' w' k1 k2 k3 k4 k5 k6 k7 k8 k9
      have hres : (∃ v1 A2, aResults P fn T' A1 = some (v1, A2) ∧ settle A.next gap v1 A2 = some (r.1, B)) ∧ (o = .normal ∨ o = .ret) := by
        cases o with
        | normal => simp only [finish, bind_eq] at k1; exact ⟨k1, .inl rfl⟩
        | ret => simp only [finish, bind_eq] at k1; exact ⟨k1, .inr rfl⟩
        | exit id => simp [finish, fail_eq] at k1
        | goto l => simp [finish, fail_eq] at k1
      obtain ⟨⟨v1, A2, h7, h8⟩, hout⟩ := hres
      have hS1 : Sim B₀ w₀ A1.ro μ' A1.get w' := by rw [k4]; exact k7
      obtain ⟨v', j1, j2, j3, j4, j5⟩ := aResults_run (P := P) (fn := fn) k8 hS1 h7
      have k5' : A.next ≤ A1.next := k5
      have hfin : Free μ' A2.next B.next := by
        rw [j4, k3]
        exact Free.after hf k6 k5'
      have m3 := (settle_loc A.next gap v1 A2 r.1 B h8).1
      obtain ⟨μ'', s1, s2, s3⟩ := settle_ok h8 (by rw [j3, j5]; exact hS1) j2 hfin
      have hx : MExt μ μ'' A.next B3.next := by
        rw [← k3]
        rw [j4] at s1
        refine k6.trans s1 k5' ?_
        rw [← j4]
        exact m3.next
      have hS2 : Sim B₀ w₀ A.ro μ'' B3.get w' := by
        rw [← k2]
        have e : A2.ro = A.ro := j5.trans k4
        rw [← e]
        exact s2
      have post : a'.defers = [] ∧ ∃ r', (results fn a'.tmps).run P w' = .ok r' w' ∧ ∃ μ' v'', Ending.returned r' = .returned v'' ∧ MExt μ μ' A.next B3.next ∧ Sim B₀ w₀ A.ro μ' B3.get w' ∧ VRel μ' r.1 v'' :=
        ⟨k9, v', j1, μ'', v', rfl, hx, hS2, s3⟩
      rcases hout with rfl | rfl
      · exact post
      · exact post
    · simp [fail_eq] at h2

end
end Go.Det
