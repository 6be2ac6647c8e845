/- The evaluator: operations in whatever order their edges allow. -/
import Derived.Test.YtpclafidblbicaaGreatDoorDetK
import Derived.Orders
namespace Go.Det
open Go.RowKit (Below)

/-! ### An operation looks at its operands alone -/
theorem evalOp_congr {P : Program} {X : Ext} {call : Func → FuncId → Array Value → M Value} {ρ ρ' : Operand → Value} (o : Oper) (h : ∀ x ∈ o.op.operands, ρ x = ρ' x) : evalOp P X call ρ o = evalOp P X call ρ' o := by
  obtain ⟨dst, op, type, pos, after, guard⟩ := o
  have pairs : ∀ ps : Array (Nat × Operand), (∀ x ∈ ps.map (·.2), ρ x = ρ' x) → (ps.map fun (i, x) => (i, ρ x)) = (ps.map fun (i, x) => (i, ρ' x)) := fun ps hp =>
    Array.map_congr_left fun p hm => by
      obtain ⟨i, x⟩ := p
      simp only [hp x (Array.mem_map.2 ⟨(i, x), hm, rfl⟩)]
  cases op <;> simp only [Op.operands] at h <;> simp only [evalOp]
  case build t ps => rw [pairs ps fun x hx => h x (by simpa using hx)]
  case buildSlice t n ps => rw [pairs ps fun x hx => h x (by simpa using hx)]
  case makeFunc fn first captured =>
    rw [Array.map_congr_left (xs := first) fun x hx => h x (by simp [hx]), Array.map_congr_left (xs := captured) fun x hx => h x (by simp [hx])]
  case call c =>
    have hargs : c.args.map ρ = c.args.map ρ' := Array.map_congr_left fun x hx => h x (by simp [Call.operands, hx])
    cases hc : c.callee with
    | value f => have hf : ρ f = ρ' f := h f (by simp [Call.operands, hc]); simp only [hargs, hf]
    | invoke r m => rfl
    | builtin b => simp only [hargs]
  case makeMap t r => cases r <;> simp_all
  case slice t x lo hi mx =>
    have hx : ρ x = ρ' x := h x (by simp)
    have hlo : lo.map ρ = lo.map ρ' := by cases lo <;> simp_all
    have hhi : hi.map ρ = hi.map ρ' := by cases hi <;> simp_all
    have hmx : mx.map ρ = mx.map ρ' := by cases mx <;> simp_all
    have hl2 : (lo.all fun v => gr (ρ v)) = (lo.all fun v => gr (ρ' v)) := by cases lo <;> simp_all
    have hh2 : (hi.all fun v => gr (ρ v)) = (hi.all fun v => gr (ρ' v)) := by cases hi <;> simp_all
    simp only [hx, hlo, hhi, hmx, hl2, hh2]
  all_goals (first | rfl | (simp_all; done))

theorem look_congr {T T' : Tr Value} {x : Operand} (h : ∀ t, x = .tmp t → T.get D t = T'.get D t) : look T x = look T' x := by
  cases x with
  | tmp t => simp only [look, slot, h t rfl]
  | _ => rfl

theorem step_congr {P : Program} {X : Ext} {call : Func → FuncId → Array Value → M Value} {ops : Array Oper} (o : Oper) {T T' : Tr Value} (h : ∀ t ∈ o.looksAt ops, T.get D t = T'.get D t) :
    step P X call ops o T = step P X call ops o T' := by
  have hw : want ops T o = want ops T' o := by
    unfold want
    cases hg : o.guard with
    | none => rfl
    | some p =>
      obtain ⟨j, b⟩ := p
      simp only
      cases hd : (ops[j]?).bind (·.dst) with
      | none => rfl
      | some d =>
        have := h d (by unfold Oper.looksAt; rw [hg]; simp only [hd]; simp)
        simp only [this]
  have he : evalOp P X call (look T) o = evalOp P X call (look T') o := evalOp_congr o fun x hx => look_congr fun t ht => h t (by
    subst ht
    unfold Oper.looksAt
    exact List.mem_append_left _ (List.mem_filterMap.2 ⟨.tmp t, by simpa using hx, rfl⟩))
  unfold step
  rw [hw, he]

/-! ### What stands ahead of what -/
def Sound (os : List Oper) (L : List Nat) : Prop :=
  ∀ (j : Nat) (o : Oper) (m : Nat), os[j]? = some o → L[j]? = some m → ∀ k, m.testBit k = true → ∃ e ∈ o.after.toList, Region.binds .any e = true ∧ (k = e.on ∨ (L[e.on]?.getD 0).testBit k = true)

theorem fold_edges (L : List Nat) : ∀ (es : List Edge) (s k : Nat), (es.foldl (fun s e => if Region.binds .any e then Nat.lor s (Nat.lor (bit e.on) (L[e.on]?.getD 0)) else s) s).testBit k = true →
    s.testBit k = true ∨ ∃ e ∈ es, Region.binds .any e = true ∧ (k = e.on ∨ (L[e.on]?.getD 0).testBit k = true)
  | [], s, k, h => .inl h
  | e :: es, s, k, h => by
    rw [List.foldl_cons] at h
    rcases fold_edges L es _ k h with h1 | ⟨e', h1, h2, h3⟩
    · split at h1
      · rename_i hb
        rw [lor_test, lor_test, bit_test] at h1
        simp only [Bool.or_eq_true, decide_eq_true_eq] at h1
        rcases h1 with h1 | h1 | h1
        · exact .inl h1
        · exact .inr ⟨e, by simp, hb, .inl h1.symm⟩
        · exact .inr ⟨e, by simp, hb, .inr h1⟩
      · exact .inl h1
    · exact .inr ⟨e', by simp [h1], h2, h3⟩

theorem ahead_sound : ∀ (l done : List Oper) (acc : List Nat), acc.length = done.length → Sound done acc.reverse → ((ahead l acc).reverse.length = (done ++ l).length ∧ Sound (done ++ l) (ahead l acc).reverse)
  | [], done, acc, hl, h => by simpa [ahead, hl] using h
  | o :: l, done, acc, hl, h => by
    unfold ahead
    rw [force_eq]
    have hm := fold_edges acc.reverse o.after.toList 0
    generalize (o.after.toList.foldl (fun s e => if Region.binds .any e then Nat.lor s (Nat.lor (bit e.on) (acc.reverse[e.on]?.getD 0)) else s) 0) = m at hm ⊢
    have grow : ∀ i k : Nat, (acc.reverse[i]?.getD 0).testBit k = true → (((m :: acc).reverse)[i]?.getD 0).testBit k = true := by
      intro i k hk
      have hlt : i < acc.reverse.length := by
        rcases Nat.lt_or_ge i acc.reverse.length with hh | hh
        · exact hh
        · rw [List.getElem?_eq_none hh] at hk; simp at hk
      rw [List.reverse_cons, List.getElem?_append_left hlt]
      exact hk
    have := ahead_sound l (done ++ [o]) (m :: acc) (by simp [hl]) (by
      intro j o' m' ho hm' k hk
      by_cases hj : j < done.length
      · rw [List.getElem?_append_left hj] at ho
        rw [List.reverse_cons, List.getElem?_append_left (by simpa [hl] using hj)] at hm'
        obtain ⟨e, h1, h2, h3⟩ := h j o' m' ho hm' k hk
        exact ⟨e, h1, h2, h3.imp id (grow _ _)⟩
      · have hj2 : j = done.length := by
          rcases Nat.lt_or_ge j (done ++ [o]).length with hh | hh
          · simp at hh; omega
          · rw [List.getElem?_eq_none hh] at ho; cases ho
        subst hj2
        rw [List.getElem?_append_right (Nat.le_refl _)] at ho
        simp at ho
        subst ho
        rw [List.reverse_cons, List.getElem?_append_right (by simp [hl])] at hm'
        simp [hl] at hm'
        subst hm'
        rcases hm k hk with h1 | ⟨e, h1, h2, h3⟩
        · simp at h1
        · exact ⟨e, h1, h2, h3.imp id (grow _ _)⟩)
    simpa using this

theorem edgesBack_sound : ∀ (l : List Oper) (i : Nat), edgesBack l i = true → ∀ (j : Nat) (o : Oper), l[j]? = some o → ∀ e ∈ o.after.toList, Region.binds .any e = true → e.on < i + j
  | [], _, _, j, o, h, _, _, _ => by simp at h
  | o :: l, i, h, j, o', ho, e, he, hb => by
    simp only [edgesBack, Bool.and_eq_true, List.all_eq_true] at h
    cases j with
    | zero =>
      simp at ho
      subst ho
      have := h.1 e he
      simp only [hb, Bool.not_true, Bool.false_or] at this
      exact blt_iff.1 this
    | succ j =>
      have := edgesBack_sound l (i + 1) h.2 j o' (by simpa using ho) e he hb
      omega

theorem pairs_sound {ops : Array Oper} : ∀ {l : List Foot}, pairs ops l = true → ∀ (i j : Nat) (x y : Foot), i < j → l[i]? = some x → l[j]? = some y → apart ops x y = true
  | [], _, i, j, x, y, _, h, _ => by simp at h
  | z :: l, hp, i, j, x, y, hij, hx, hy => by
    simp only [pairs, Bool.and_eq_true, List.all_eq_true] at hp
    cases j with
    | zero => omega
    | succ j =>
      have hy : l[j]? = some y := by simpa using hy
      cases i with
      | zero =>
        simp at hx
        subst hx
        exact hp.1 y (List.mem_of_getElem? hy)
      | succ i => exact pairs_sound hp.2 i j x y (by omega) (by simpa using hx) hy

theorem feet_get : ∀ (os : List Oper) (ms : List (Nat × Nat)) (ps : List Nat) (i k : Nat) (o : Oper) (R W p : Nat), os[k]? = some o → ms[k]? = some (R, W) → ps[k]? = some p → (feet os ms ps i)[k]? = some ⟨o, i + k, R, W, p⟩
  | [], _, _, _, k, _, _, _, _, h, _, _ => by simp at h
  | _ :: _, [], _, _, k, _, _, _, _, _, h, _ => by simp at h
  | _ :: _, _ :: _, [], _, k, _, _, _, _, _, _, h => by simp at h
  | o :: os, m :: ms, p :: ps, i, k, o', R, W, p', h1, h2, h3 => by
    obtain ⟨r, w⟩ := m
    cases k with
    | zero =>
      simp at h1 h2 h3
      obtain ⟨rfl, rfl⟩ := h2
      subst h1
      subst h3
      simp [feet]
    | succ k =>
      have := feet_get os ms ps (i + 1) k o' R W p' (by simpa using h1) (by simpa using h2) (by simpa using h3)
      simp only [feet, List.getElem?_cons_succ, this]
      congr 2
      omega

theorem disjoint_test {a b x : Nat} (h : disjoint a b = true) : ¬ (a.testBit x = true ∧ b.testBit x = true) := by
  intro ⟨h1, h2⟩
  have h := Nat.eq_of_beq_eq_true h
  have := land_test a b x
  rw [h, h1, h2] at this
  simp at this

/-! ### The run in the order of the text -/
structure Text (P : Program) (X : Ext) (call : Func → FuncId → Array Value → M Value) (ops : Array Oper) (n : Nat) (N : Nat) (Ts : Nat → Tr Value) (As Bs : Nat → St) (vs : Nat → Value) : Prop where
  op : ∀ j, j < N → ∃ o, ops[j]? = some o ∧ step P X call ops o (Ts j) { As j with R := 0, W := 0 } = some (vs j, Bs j) ∧ put n (Ts j) o.dst (vs j) = some (Ts (j + 1))
  st : ∀ j, j < N → As (j + 1) = { Bs j with R := Nat.lor (As j).R (Bs j).R, W := Nat.lor (As j).W (Bs j).W }

theorem stepsM_text {P : Program} {X : Ext} {call : Func → FuncId → Array Value → M Value} {ops : Array Oper} {n : Nat} : ∀ (rest : List Oper) (i : Nat) (T T' : Tr Value) (A A' : St) (ms : List (Nat × Nat)),
    stepsM P X call ops n rest T A = some ((T', ms), A') →
    ∃ (Ts : Nat → Tr Value) (As Bs : Nat → St) (vs : Nat → Value), Ts i = T ∧ As i = A ∧ Ts (i + rest.length) = T' ∧ As (i + rest.length) = A' ∧
      (∀ k, k < rest.length → ∃ o, rest[k]? = some o ∧ step P X call ops o (Ts (i + k)) { As (i + k) with R := 0, W := 0 } = some (vs (i + k), Bs (i + k)) ∧ put n (Ts (i + k)) o.dst (vs (i + k)) = some (Ts (i + k + 1)) ∧
        As (i + k + 1) = { Bs (i + k) with R := Nat.lor (As (i + k)).R (Bs (i + k)).R, W := Nat.lor (As (i + k)).W (Bs (i + k)).W } ∧ ms[k]? = some ((Bs (i + k)).R, (Bs (i + k)).W))
  | [], i, T, T', A, A', ms, h => by
    simp only [stepsM, ret_eq, Prod.mk.injEq] at h
    obtain ⟨⟨rfl, rfl⟩, rfl⟩ := h
    exact ⟨fun _ => T, fun _ => A, fun _ => A, fun _ => undef, rfl, rfl, rfl, rfl, fun k hk => by simp at hk⟩
  | o :: rest, i, T, T', A, A', ms, h => by
    simp only [stepsM, bind_eq, opt_eq, ret_eq, Prod.mk.injEq] at h
    obtain ⟨⟨v, R, W⟩, B1, h1, T1, B2, ⟨h2, rfl⟩, ⟨T2, ms2⟩, B3, h3, ⟨rfl, rfl⟩, rfl⟩ := h
    rw [meas_eq] at h1
    obtain ⟨B, h4, h5, h6, rfl⟩ := h1
    simp only at h4 h5 h6
    subst h5
    subst h6
    obtain ⟨Ts, As, Bs, vs, e1, e2, e3, e4, e5⟩ := stepsM_text rest (i + 1) _ _ _ _ _ h3
    refine ⟨fun j => if j = i then T else Ts j, fun j => if j = i then A else As j, fun j => if j = i then B else Bs j, fun j => if j = i then v else vs j, by simp, by simp, ?_, ?_, ?_⟩
    · rw [List.length_cons, show i + (rest.length + 1) = i + 1 + rest.length by omega]
      show (if i + 1 + rest.length = i then T else Ts (i + 1 + rest.length)) = _
      rw [if_neg (by omega)]
      exact e3
    · rw [List.length_cons, show i + (rest.length + 1) = i + 1 + rest.length by omega]
      show (if i + 1 + rest.length = i then A else As (i + 1 + rest.length)) = _
      rw [if_neg (by omega)]
      exact e4
    · intro k hk
      cases k with
      | zero =>
        refine ⟨o, by simp, ?_⟩
        simp only [Nat.add_zero, if_true]
        rw [if_neg (show ¬ i + 1 = i by omega), if_neg (show ¬ i + 1 = i by omega), e1, e2]
        exact ⟨h4, h2, rfl, by simp⟩
      | succ k =>
        obtain ⟨o', f1, f2, f3, f4, f5⟩ := e5 k (by simpa using hk)
        refine ⟨o', by simpa using f1, ?_⟩
        rw [show i + (k + 1) = i + 1 + k by omega]
        simp only [if_neg (show ¬ i + 1 + k = i by omega), if_neg (show ¬ i + 1 + k + 1 = i by omega)]
        exact ⟨f2, f3, f4, by simpa using f5⟩

end Go.Det
