/- The evaluator: a region whose order is drawn. -/
import Derived.Test.YtpclafidblbicaaGreatDoorDetN
namespace Go.Det
open Go.RowKit (Below)

theorem put_get {n : Nat} (hn : n ≤ lim) {T T' : Tr Value} {dst : Option Tmp} {v : Value} (h : put n T dst v = some T') (t : Nat) : T'.get D t = if dst = some t then some v else T.get D t := by
  unfold put at h
  cases dst with
  | none => simp only [Option.some.injEq] at h; subst h; simp
  | some d =>
    simp only at h
    cases hb : Nat.blt d n with
    | false => rw [hb] at h; cases h
    | true =>
      rw [hb] at h
      simp only [Option.some.injEq] at h
      subst h
      rw [Tr.get_set T d t _ (Nat.lt_of_lt_of_le (blt_iff.1 hb) hn)]
      by_cases e : t = d
      · subst e; simp
      · rw [if_neg e, if_neg (fun h' => e (by simpa using h'.symm))]

theorem put_again {n : Nat} {T T' U : Tr Value} {dst : Option Tmp} {v : Value} (h : put n T dst v = some T') : ∃ U', put n U dst v = some U' := by
  unfold put at h ⊢
  cases dst with
  | none => exact ⟨U, rfl⟩
  | some d =>
    simp only at h ⊢
    cases hb : Nat.blt d n with
    | false => rw [hb] at h; cases h
    | true => exact ⟨_, rfl⟩

/-- the last of those that were done and that did 'p' -/
def LastDone (E : Nat → Prop) (p : Nat → Prop) (i : Nat) : Prop := E i ∧ p i ∧ ∀ k, E k → p k → k ≤ i

section
variable {P : Program} {B₀ : Nat} {w₀ : World} {X : Ext} {call : Func → FuncId → Array Value → M Value} {ops : Array Oper} {n : Nat} {Ts : Nat → Tr Value} {As Bs : Nat → St} {vs : Nat → Value}

/-- what is asked of the text's run, operation by operation -/
structure Plan (P : Program) (X : Ext) (call : Func → FuncId → Array Value → M Value) (ops : Array Oper) (n : Nat) (Ts : Nat → Tr Value) (As Bs : Nat → St) (vs : Nat → Value) (pre : Nat → Nat) : Prop where
  text : Text P X call ops n ops.size Ts As Bs vs
  small : n ≤ lim
  loc : ∀ fn g args, Loc (call fn g args)
  back : ∀ j o, ops[j]? = some o → ∀ e ∈ o.after.toList, Region.binds .any e = true → e.on < j
  ahd : ∀ j o, ops[j]? = some o → ∀ k, (pre j).testBit k = true → ∃ e ∈ o.after.toList, Region.binds .any e = true ∧ (k = e.on ∨ (pre e.on).testBit k = true)
  apart : ∀ i j x y, i < j → ops[i]? = some x → ops[j]? = some y → (pre j).testBit i = true ∨
    (Oper.apart ops x y = true ∧ disjoint (Bs i).W (Nat.lor (Bs j).R (Bs j).W) = true ∧ disjoint (Bs i).R (Bs j).W = true)

variable {pre : Nat → Nat}

theorem Plan.mono (h : Plan P X call ops n Ts As Bs vs pre) {j : Nat} (hj : j < ops.size) : Mono { As j with R := 0, W := 0 } (Bs j) := by
  obtain ⟨o, _, h2, _⟩ := h.text.op j hj
  exact (step_loc P h.loc ops o (Ts j) _ _ _ h2).1

theorem Plan.get_st (h : Plan P X call ops n Ts As Bs vs pre) {j : Nat} (hj : j < ops.size) (x : Nat) : (As (j + 1)).get x = (Bs j).get x := by rw [h.text.st j hj]; rfl
theorem Plan.next_st (h : Plan P X call ops n Ts As Bs vs pre) {j : Nat} (hj : j < ops.size) : (As (j + 1)).next = (Bs j).next := by rw [h.text.st j hj]

theorem Plan.get_keep (h : Plan P X call ops n Ts As Bs vs pre) {j : Nat} (hj : j < ops.size) {x : Nat} (hw : (Bs j).W.testBit x = false) : (As (j + 1)).get x = (As j).get x := by
  rw [h.get_st hj, (h.mono hj).same x hw]
  rfl

theorem Plan.slot_keep (h : Plan P X call ops n Ts As Bs vs pre) {j : Nat} {o : Oper} (ho : ops[j]? = some o) {t : Nat} (hd : o.dst ≠ some t) : (Ts (j + 1)).get D t = (Ts j).get D t := by
  have hj : j < ops.size := by
    rcases Nat.lt_or_ge j ops.size with hh | hh
    · exact hh
    · rw [Array.getElem?_eq_none hh] at ho; cases ho
  obtain ⟨o', h1, _, h3⟩ := h.text.op j hj
  rw [ho] at h1
  cases h1
  rw [put_get h.small h3 t, if_neg hd]

theorem Plan.next_le (h : Plan P X call ops n Ts As Bs vs pre) : ∀ {i j : Nat}, i ≤ j → j ≤ ops.size → (As i).next ≤ (As j).next := by
  intro i j hij
  induction hij with
  | refl => intro _; exact Nat.le_refl _
  | @step m _ ih =>
    intro hj
    have := (h.mono (j := m) (by omega)).next
    rw [h.next_st (by omega)]
    exact Nat.le_trans (ih (by omega)) this

theorem Plan.ro_eq (h : Plan P X call ops n Ts As Bs vs pre) : ∀ j, j ≤ ops.size → (As j).ro = (As 0).ro := by
  intro j
  induction j with
  | zero => intro _; rfl
  | succ j ih =>
    intro hj
    have h1 := (h.mono (j := j) (by omega)).ro
    rw [h.text.st j (by omega)]
    show (Bs j).ro = _
    rw [h1]
    exact ih (by omega)

/-- slots between two places of the text -/
theorem Plan.slots_between (h : Plan P X call ops n Ts As Bs vs pre) {i : Nat} {t : Nat} : ∀ {j : Nat}, i ≤ j → j ≤ ops.size → (∀ k o, i ≤ k → k < j → ops[k]? = some o → o.dst ≠ some t) → (Ts j).get D t = (Ts i).get D t := by
  intro j hij
  induction hij with
  | refl => intro _ _; rfl
  | @step m hm ih =>
    intro hj hk
    obtain ⟨o, ho, _, _⟩ := h.text.op m (by omega)
    rw [h.slot_keep ho (hk m o hm (by omega) ho)]
    exact ih (by omega) fun k o a b => hk k o a (by omega)

theorem Plan.heap_between (h : Plan P X call ops n Ts As Bs vs pre) {i : Nat} {x : Nat} : ∀ {j : Nat}, i ≤ j → j ≤ ops.size → (∀ k, i ≤ k → k < j → (Bs k).W.testBit x = false) → (As j).get x = (As i).get x := by
  intro j hij
  induction hij with
  | refl => intro _ _; rfl
  | @step m hm ih =>
    intro hj hk
    rw [h.get_keep (by omega) (hk m hm (by omega))]
    exact ih (by omega) fun k a b => hk k a (by omega)

/-- how things stand where just the operations of E were done -/
structure Stage (B₀ : Nat) (w₀ : World) (ops : Array Oper) (n : Nat) (Ts : Nat → Tr Value) (As Bs : Nat → St) (μ₀ : Mu) (d : List Deferred) (E : Nat → Prop) (T : Tr Value) (B : St) (a : Act) (w : World) (μ : Mu) : Prop where
  lt : ∀ i, E i → i < ops.size
  closed : ∀ i o, E i → ops[i]? = some o → ∀ e ∈ o.after.toList, Region.binds .any e = true → E e.on
  slots : ∀ t, (∃ i, LastDone E (fun i => ∃ o, ops[i]? = some o ∧ o.dst = some t) i ∧ T.get D t = (Ts (i + 1)).get D t) ∨
    ((∀ i o, E i → ops[i]? = some o → o.dst ≠ some t) ∧ T.get D t = (Ts 0).get D t)
  heap : ∀ x, (∃ i, LastDone E (fun i => (Bs i).W.testBit x = true) i ∧ B.get x = (As (i + 1)).get x) ∨
    ((∀ i, E i → (Bs i).W.testBit x = false) ∧ B.get x = (As 0).get x)
  ro : B.ro = (As 0).ro
  sim : Sim B₀ w₀ (As 0).ro μ B.get w
  rel : TRel μ n T a.tmps
  defers : a.defers = d
  le : MLe μ₀ μ
  free : ∀ id, μ₀ id = none → (∀ j, E j → ¬ ((As j).next ≤ id ∧ id < (As (j + 1)).next)) → μ id = none

theorem Stage.before {μ₀ μ : Mu} {d : List Deferred} {E : Nat → Prop} {T : Tr Value} {B : St} {a : Act} {w : World} (hp : Plan P X call ops n Ts As Bs vs pre) (s : Stage B₀ w₀ ops n Ts As Bs μ₀ d E T B a w μ) :
    ∀ (i k : Nat), E i → (pre i).testBit k = true → E k := by
  intro i
  induction i using Nat.strongRecOn with
  | _ i ih =>
    intro k hi hk
    have hlt := s.lt i hi
    obtain ⟨o, ho, _, _⟩ := hp.text.op i hlt
    obtain ⟨e, h1, h2, h3⟩ := hp.ahd i o ho k hk
    have he := s.closed i o hi ho e h1 h2
    rcases h3 with rfl | h3
    · exact he
    · exact ih e.on (hp.back i o ho e h1 h2) k he h3

theorem apart_looks {x y : Oper} (h : Oper.apart ops x y = true) {t : Nat} : (x.dst = some t → t ∉ y.looksAt ops) ∧ (y.dst = some t → t ∉ x.looksAt ops) ∧ ¬ (x.dst = some t ∧ y.dst = some t) := by
  obtain ⟨h1, h2, h3⟩ := Oper.apart_spec h
  exact ⟨h1 t, h3 t, fun ⟨a, b⟩ => h2 t a b⟩

/-- the next operation, where all that stand ahead of it were done -/
theorem Stage.next {μ₀ μ : Mu} {d : List Deferred} {E : Nat → Prop} {T : Tr Value} {B : St} {a : Act} {w : World} (hX : ExtOK P X) (hcall : CallOK P B₀ w₀ call) (hp : Plan P X call ops n Ts As Bs vs pre)
    (s : Stage B₀ w₀ ops n Ts As Bs μ₀ d E T B a w μ) (hfree : Free μ₀ (As 0).next (As ops.size).next) {j : Nat} {o : Oper} (ho : ops[j]? = some o) (hj : ¬ E j) (hready : ∀ e ∈ o.after.toList, Region.binds .any e = true → E e.on)
    {Q : Exit → Act → World → Prop} {K : Act → World → Prop}
    (hK : ∀ T' B' a' w' μ', Stage B₀ w₀ ops n Ts As Bs μ₀ d (fun i => E i ∨ i = j) T' B' a' w' μ' → K a' w') : wpOp P ops Q j K a w := by
  have hjlt : j < ops.size := by
    rcases Nat.lt_or_ge j ops.size with hh | hh
    · exact hh
    · rw [Array.getElem?_eq_none hh] at ho; cases ho
  obtain ⟨o', ho', hstep, hput⟩ := hp.text.op j hjlt
  rw [ho] at ho'
  cases ho'
  -- whatever stands ahead of j was done; j stands ahead of nothing that was done
  have hin : ∀ k, (pre j).testBit k = true → E k := by
    intro k hk
    obtain ⟨e, h1, h2, h3⟩ := hp.ahd j o ho k hk
    have he := hready e h1 h2
    rcases h3 with rfl | h3
    · exact he
    · exact s.before hp e.on k he h3
  have hout : ∀ i, E i → (pre i).testBit j = false := by
    intro i hi
    cases hb : (pre i).testBit j with
    | false => rfl
    | true => exact absurd (s.before hp i j hi hb) hj
  have hne : ∀ i, E i → i ≠ j := fun i hi e => hj (e ▸ hi)
  -- the slots that it looks at
  have hslots : ∀ t ∈ o.looksAt ops, T.get D t = (Ts j).get D t := by
    intro t ht
    have later : ∀ i x, E i → ops[i]? = some x → x.dst = some t → i < j := by
      intro i x hi hx hd
      rcases Nat.lt_trichotomy i j with h | h | h
      · exact h
      · exact absurd h (hne i hi)
      · rcases hp.apart j i o x h ho hx with h1 | ⟨h1, _, _⟩
        · rw [hout i hi] at h1; cases h1
        · exact absurd ht ((apart_looks h1).2.1 hd)
    have done : ∀ k x, k < j → ops[k]? = some x → x.dst = some t → E k := by
      intro k x hk hx hd
      rcases hp.apart k j x o hk hx ho with h1 | ⟨h1, _, _⟩
      · exact hin k h1
      · exact absurd ht ((apart_looks h1).1 hd)
    rcases s.slots t with ⟨i, ⟨h1, ⟨x, hx, hd⟩, h3⟩, h4⟩ | ⟨h1, h2⟩
    · have hi := later i x h1 hx hd
      rw [h4]
      symm
      refine hp.slots_between (i := i + 1) (by omega) (by omega) fun k y hk1 hk2 hy hdy => ?_
      have := h3 k (done k y hk2 hy hdy) ⟨y, hy, hdy⟩
      omega
    · rw [h2]
      symm
      exact hp.slots_between (i := 0) (by omega) (by omega) fun k y _ hk2 hy hdy => h1 k y (done k y hk2 hy hdy) hy hdy
  -- the memory that it looks at
  have hheap : ∀ x, ((Bs j).R.testBit x || (Bs j).W.testBit x) = true → B.get x = (As j).get x := by
    intro x hx
    have later : ∀ i, E i → (Bs i).W.testBit x = true → i < j := by
      intro i hi hw
      rcases Nat.lt_trichotomy i j with h | h | h
      · exact h
      · exact absurd h (hne i hi)
      · obtain ⟨y, hy, _, _⟩ := hp.text.op i (s.lt i hi)
        rcases hp.apart j i o y h ho hy with h1 | ⟨_, h1, h2⟩
        · rw [hout i hi] at h1; cases h1
        · simp only [Bool.or_eq_true] at hx
          rcases hx with hx | hx
          · exact absurd ⟨hx, hw⟩ (disjoint_test h2)
          · exact absurd ⟨hx, by rw [lor_test, hw, Bool.or_true]⟩ (disjoint_test h1)
    have done : ∀ k, k < j → (Bs k).W.testBit x = true → E k := by
      intro k hk hw
      obtain ⟨y, hy, _, _⟩ := hp.text.op k (by omega)
      rcases hp.apart k j y o hk hy ho with h1 | ⟨_, h1, _⟩
      · exact hin k h1
      · exact absurd ⟨hw, by rw [lor_test]; exact hx⟩ (disjoint_test h1)
    rcases s.heap x with ⟨i, ⟨h1, hw, h3⟩, h4⟩ | ⟨h1, h2⟩
    · have hi := later i h1 hw
      rw [h4]
      symm
      refine hp.heap_between (i := i + 1) (by omega) (by omega) fun k hk1 hk2 => ?_
      cases hb : (Bs k).W.testBit x with
      | false => rfl
      | true => have := h3 k (done k hk2 hb) hb; omega
    · rw [h2]
      symm
      refine hp.heap_between (i := 0) (by omega) (by omega) fun k _ hk2 => ?_
      cases hb : (Bs k).W.testBit x with
      | false => rfl
      | true => rw [h1 k (done k hk2 hb)] at hb; cases hb
  -- so it does the same here
  have hro : (As j).ro = (As 0).ro := hp.ro_eq j (by omega)
  obtain ⟨B', hstep', l1, l2, l3, l4, l5⟩ := (step_loc P hp.loc ops o (Ts j) _ _ _ hstep).2 { B with next := (As j).next, R := 0, W := 0 } ⟨rfl, s.ro.trans hro.symm, rfl, rfl, hheap⟩
  rw [← step_congr o hslots] at hstep'
  obtain ⟨T', hput'⟩ := put_again (U := T) hput
  have hnext : (As (j + 1)).next = B'.next := by rw [hp.next_st hjlt, l1]
  have hfj : Free μ (As j).next B'.next := by
    intro id h1 h2
    refine s.free id (hfree id (Nat.le_trans (hp.next_le (Nat.zero_le j) (by omega)) h1) (Nat.lt_of_lt_of_le h2 (by rw [← hnext]; exact hp.next_le (by omega) (Nat.le_refl _)))) fun i hi ⟨h3, h4⟩ => ?_
    have hilt := s.lt i hi
    rcases Nat.lt_trichotomy i j with h | h | h
    · have := hp.next_le (i := i + 1) (j := j) (by omega) (by omega); omega
    · exact hne i hi h
    · have := hp.next_le (i := j + 1) (j := i) (by omega) (by omega); omega
  have hS : Sim B₀ w₀ ({ B with next := (As j).next, R := 0, W := 0 } : St).ro μ ({ B with next := (As j).next, R := 0, W := 0 } : St).get w := by
    show Sim B₀ w₀ B.ro μ B.get w
    rw [s.ro]
    exact s.sim
  refine step_ok hX hcall hS hstep' hfj s.rel ho fun μ' w' v' k1 k2 k3 => hK T' B' (a.put o.dst v') w' μ' ?_
  -- nothing of what was done comes behind j at one place
  have maxT : ∀ i x t, E i → ops[i]? = some x → x.dst = some t → o.dst = some t → i ≤ j := by
    intro i x t hi hx hd hdo
    rcases Nat.lt_or_ge j i with h | h
    · rcases hp.apart j i o x h ho hx with h1 | ⟨h1, _, _⟩
      · rw [hout i hi] at h1; cases h1
      · exact absurd ⟨hdo, hd⟩ (apart_looks h1).2.2
    · exact h
  have maxW : ∀ i x, E i → (Bs i).W.testBit x = true → (Bs j).W.testBit x = true → i ≤ j := by
    intro i x hi hw hwj
    rcases Nat.lt_or_ge j i with h | h
    · obtain ⟨y, hy, _, _⟩ := hp.text.op i (s.lt i hi)
      rcases hp.apart j i o y h ho hy with h1 | ⟨_, h1, _⟩
      · rw [hout i hi] at h1; cases h1
      · exact absurd ⟨hwj, by rw [lor_test, hw, Bool.or_true]⟩ (disjoint_test h1)
    · exact h
  exact {
    lt := fun i hi => hi.elim (s.lt i) (fun e => e ▸ hjlt)
    closed := by
      intro i x hi hx e he hb
      rcases hi with hi | rfl
      · exact .inl (s.closed i x hi hx e he hb)
      · rw [ho] at hx; cases hx; exact .inl (hready e he hb)
    slots := by
      intro t
      rw [put_get hp.small hput' t]
      by_cases hd : o.dst = some t
      · refine .inl ⟨j, ⟨.inr rfl, ⟨o, ho, hd⟩, fun k hk hpk => ?_⟩, ?_⟩
        · rcases hk with hk | rfl
          · obtain ⟨x, hx, hdx⟩ := hpk; exact maxT k x t hk hx hdx hd
          · exact Nat.le_refl _
        · rw [if_pos hd, put_get hp.small hput t, if_pos hd]
      · rw [if_neg hd]
        rcases s.slots t with ⟨i, ⟨h1, h2, h3⟩, h4⟩ | ⟨h1, h2⟩
        · refine .inl ⟨i, ⟨.inl h1, h2, fun k hk hpk => ?_⟩, h4⟩
          rcases hk with hk | rfl
          · exact h3 k hk hpk
          · obtain ⟨x, hx, hdx⟩ := hpk; rw [ho] at hx; cases hx; exact absurd hdx hd
        · refine .inr ⟨fun i x hi hx => ?_, h2⟩
          rcases hi with hi | rfl
          · exact h1 i x hi hx
          · rw [ho] at hx; cases hx; exact hd
    heap := by
      intro x
      rw [l5 x]
      cases hw : (Bs j).W.testBit x with
      | true =>
        refine .inl ⟨j, ⟨.inr rfl, hw, fun k hk hpk => ?_⟩, ?_⟩
        · rcases hk with hk | rfl
          · exact maxW k x hk hpk hw
          · exact Nat.le_refl _
        · rw [if_pos rfl, hp.get_st hjlt]
      | false =>
        simp only [Bool.false_eq_true, if_false]
        show (∃ i, _ ∧ B.get x = _) ∨ (_ ∧ B.get x = _)
        rcases s.heap x with ⟨i, ⟨h1, h2, h3⟩, h4⟩ | ⟨h1, h2⟩
        · refine .inl ⟨i, ⟨.inl h1, h2, fun k hk hpk => ?_⟩, h4⟩
          rcases hk with hk | rfl
          · exact h3 k hk hpk
          · have hpk : (Bs k).W.testBit x = true := hpk
            rw [hw] at hpk; cases hpk
        · refine .inr ⟨fun i hi => ?_, h2⟩
          rcases hi with hi | rfl
          · exact h1 i hi
          · exact hw
    ro := by
      rw [l2]
      exact ((hp.mono hjlt).ro).trans hro
    sim := by
      have := k2
      rw [show ({ B with next := (As j).next, R := 0, W := 0 } : St).ro = (As 0).ro from s.ro] at this
      exact this
    rel := put_rel (s.rel.mono k1.1) hput' k3
    defers := by
      rw [← s.defers]
      cases o.dst <;> rfl
    le := s.le.trans k1.1
    free := by
      intro id h0 h1
      refine k1.2 id (s.free id h0 fun i hi => h1 i (.inl hi)) ?_
      rw [← hnext]
      exact h1 j (.inr rfl) }

end
end Go.Det
