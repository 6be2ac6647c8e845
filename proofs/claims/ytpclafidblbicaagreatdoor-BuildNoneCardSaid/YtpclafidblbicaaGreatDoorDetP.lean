/- The evaluator: code, calls, and what is got of a run. -/
import Derived.Test.YtpclafidblbicaaGreatDoorDetO
import Derived.LoopN
import Derived.ScopeJumps
namespace Go.Det
open Go.RowKit (Below)

section
variable {P : Program} {B₀ : Nat} {w₀ : World} {X : Ext} {call : Func → FuncId → Array Value → M Value}

/-! ### Regions -/
theorem Stage.all {ops : Array Oper} {n : Nat} {Ts : Nat → Tr Value} {As Bs : Nat → St} {vs : Nat → Value} {pre : Nat → Nat} {μ₀ μ : Mu} {d : List Deferred} {E : Nat → Prop} {T : Tr Value} {B : St} {a : Act} {w : World}
    (hp : Plan P X call ops n Ts As Bs vs pre) (s : Stage B₀ w₀ ops n Ts As Bs μ₀ d E T B a w μ) (hE : ∀ i, i < ops.size → E i) :
    (∀ t, T.get D t = (Ts ops.size).get D t) ∧ B.get = (As ops.size).get := by
  refine ⟨fun t => ?_, funext fun x => ?_⟩
  · rcases s.slots t with ⟨i, ⟨h1, h2, h3⟩, h4⟩ | ⟨h1, h2⟩
    · rw [h4]
      symm
      refine hp.slots_between (i := i + 1) (s.lt i h1) (Nat.le_refl _) fun k o hk1 hk2 ho hd => ?_
      have := h3 k (hE k hk2) ⟨o, ho, hd⟩
      omega
    · rw [h2]
      symm
      exact hp.slots_between (i := 0) (Nat.zero_le _) (Nat.le_refl _) fun k o _ hk2 ho => h1 k o (hE k hk2) ho
  · rcases s.heap x with ⟨i, ⟨h1, h2, h3⟩, h4⟩ | ⟨h1, h2⟩
    · rw [h4]
      symm
      refine hp.heap_between (i := i + 1) (s.lt i h1) (Nat.le_refl _) fun k hk1 hk2 => ?_
      cases hb : (Bs k).W.testBit x with
      | false => rfl
      | true => have := h3 k (hE k hk2) hb; omega
    · rw [h2]
      symm
      exact hp.heap_between (i := 0) (Nat.zero_le _) (Nat.le_refl _) fun k _ hk2 => h1 k (hE k hk2)

theorem count_set : ∀ (l : List Bool) (i : Nat), l[i]? = some false → (l.set i true).count false + 1 = l.count false
  | [], i, h => by simp at h
  | b :: l, 0, h => by simp at h; subst h; simp
  | b :: l, i + 1, h => by
    have := count_set l i (by simpa using h)
    simp only [List.set_cons_succ, List.count_cons]
    omega

theorem ready_mem {ops : Array Oper} {listed : Array Bool} (hsz : listed.size = ops.size) {i : Nat} : i ∈ Region.ready .any ops listed ↔
    ∃ o, ops[i]? = some o ∧ listed[i]? = some false ∧ ∀ e ∈ o.after.toList, Region.binds .any e = true → listed[e.on]? = some true := by
  unfold Region.ready
  simp only [List.mem_filter, List.mem_range, Bool.and_eq_true]
  constructor
  · rintro ⟨h1, h2, h3⟩
    have hlt : i < listed.size := by omega
    have hl : listed[i]? = some false := by
      rw [Array.getElem?_eq_getElem hlt]
      rw [Array.getD_eq_getD_getElem?, Array.getElem?_eq_getElem hlt] at h2
      simpa using h2
    rw [Array.getElem?_eq_getElem h1] at h3 ⊢
    refine ⟨_, rfl, hl, fun e he hb => ?_⟩
    simp only [Option.map_some, Option.getD_some] at h3
    rw [Array.all_eq_true_iff_forall_mem] at h3
    have := h3 e (by simpa using he)
    simp only [hb, Bool.not_true, Bool.false_or] at this
    rw [Array.getD_eq_getD_getElem?] at this
    cases hh : listed[e.on]? with
    | none => rw [hh] at this; cases this
    | some b => rw [hh] at this; simp only [Option.getD_some] at this; rw [this]
  · rintro ⟨o, h1, h2, h3⟩
    have hlt : i < ops.size := by
      rcases Nat.lt_or_ge i ops.size with hh | hh
      · exact hh
      · rw [Array.getElem?_eq_none hh] at h1; cases h1
    refine ⟨hlt, ?_, ?_⟩
    · rw [Array.getD_eq_getD_getElem?, h2]; rfl
    · rw [h1]
      simp only [Option.map_some, Option.getD_some]
      rw [Array.all_eq_true_iff_forall_mem]
      intro e he
      cases hb : Region.binds .any e with
      | false => simp
      | true =>
        have := h3 e (by simpa using he) hb
        rw [Array.getD_eq_getD_getElem?, this]
        simp

theorem Stage.any {ops : Array Oper} {n : Nat} {Ts : Nat → Tr Value} {As Bs : Nat → St} {vs : Nat → Value} {pre : Nat → Nat} {μ₀ : Mu} {d : List Deferred} (hX : ExtOK P X) (hcall : CallOK P B₀ w₀ call)
    (hp : Plan P X call ops n Ts As Bs vs pre) (hfree : Free μ₀ (As 0).next (As ops.size).next) {Q : Exit → Act → World → Prop}
    (hQ : ∀ T B a w μ, Stage B₀ w₀ ops n Ts As Bs μ₀ d (fun i => i < ops.size) T B a w μ → Q .normal a w) :
    ∀ (fuel : Nat) (listed : Array Bool) (T : Tr Value) (B : St) (a : Act) (w : World) (μ : Mu), listed.size = ops.size → listed.toList.count false ≤ fuel →
      Stage B₀ w₀ ops n Ts As Bs μ₀ d (fun i => listed[i]? = some true) T B a w μ → wpAny P .any ops Q fuel listed a w := by
  have done : ∀ (listed : Array Bool) (T : Tr Value) (B : St) (a : Act) (w : World) (μ : Mu), listed.size = ops.size → Stage B₀ w₀ ops n Ts As Bs μ₀ d (fun i => listed[i]? = some true) T B a w μ →
      Region.ready .any ops listed = [] → Q .normal a w := by
    intro listed T B a w μ hsz s hr
    have hall : ∀ i, i < ops.size → listed[i]? = some true := by
      intro i
      induction i using Nat.strongRecOn with
      | _ i ih =>
        intro hi
        have hlt : i < listed.size := by omega
        cases hb : listed[i]? with
        | none => rw [Array.getElem?_eq_getElem hlt] at hb; cases hb
        | some b =>
          cases b with
          | true => rfl
          | false =>
            have hmem : i ∈ Region.ready .any ops listed := (ready_mem hsz).2 ⟨ops[i], by simp [hi], hb, fun e he hbnd => by
              have hlt2 := hp.back i ops[i] (by simp [hi]) e he hbnd
              exact ih e.on hlt2 (by omega)⟩
            rw [hr] at hmem
            cases hmem
    have heq : (fun i => listed[i]? = some true) = (fun i => i < ops.size) := by
      funext i
      apply propext
      constructor
      · intro h; exact s.lt i h
      · exact hall i
    rw [heq] at s
    exact hQ T B a w μ s
  intro fuel
  induction fuel with
  | zero =>
    intro listed T B a w μ hsz hc s
    have hr : Region.ready .any ops listed = [] := by
      apply List.eq_nil_iff_forall_not_mem.2
      intro i hi
      obtain ⟨o, h1, h2, _⟩ := (ready_mem hsz).1 hi
      have hmem : false ∈ listed.toList := List.mem_of_getElem? (by simpa using h2)
      have := List.count_pos_iff.2 hmem
      omega
    exact ⟨hr, done listed T B a w μ hsz s hr⟩
  | succ fuel ih =>
    intro listed T B a w μ hsz hc s
    refine ⟨done listed T B a w μ hsz s, fun i hi => ?_⟩
    obtain ⟨o, h1, h2, h3⟩ := (ready_mem hsz).1 hi
    refine s.next hX hcall hp hfree h1 (by rw [h2]; simp) h3 fun T' B' a' w' μ' s' => ?_
    refine ih (listed.setIfInBounds i true) T' B' a' w' μ' (by simpa using hsz) ?_ ?_
    · rw [Array.toList_setIfInBounds]
      have := count_set listed.toList i (by simpa using h2)
      omega
    · have heq : (fun k => (listed.setIfInBounds i true)[k]? = some true) = (fun k => listed[k]? = some true ∨ k = i) := by
        funext k
        apply propext
        have hlt : i < listed.size := by
          rcases Nat.lt_or_ge i listed.size with hh | hh
          · exact hh
          · rw [Array.getElem?_eq_none hh] at h2; cases h2
        by_cases e : k = i
        · subst e
          rw [Array.getElem?_setIfInBounds_self_of_lt hlt]
          simp
        · rw [Array.getElem?_setIfInBounds_ne (fun h' => e h'.symm)]
          simp [e]
      rw [heq]
      exact s'

theorem region_ok (hmix : P.follows .mixedOrders = true) (hX : ExtOK P X) (hcall : CallOK P B₀ w₀ call) (hloc : ∀ fn g args, Loc (call fn g args)) {id : Nat} {ops : Array Oper} {draw : Bool} {n : Nat} {T T' : Tr Value} {a : Act} {A A' : St}
    {μ : Mu} {w : World} (h : evalRegion P X call ops draw n T A = some (T', A')) (hS : Sim B₀ w₀ A.ro μ A.get w) (hT : TRel μ n T a.tmps) (hf : Free μ A.next A'.next) {Q : Exit → Act → World → Prop}
    (hQ : ∀ μ' a' w', MExt μ μ' A.next A'.next → Sim B₀ w₀ A.ro μ' A'.get w' → TRel μ' n T' a'.tmps → a'.defers = a.defers → Q .normal a' w') : (Code.region id ops draw).wp P Q a w := by
  unfold evalRegion at h
  cases draw with
  | false =>
    simp only at h
    refine wp_region ?_
    have := steps_ok hX hcall hloc (Q := Q) ops.toList 0 T T' a A A' μ w rfl h hS hT hf hQ
    rw [Array.length_toList, ← List.range_eq_range'] at this
    exact this
  | true =>
    simp only [bind_eq] at h
    obtain ⟨⟨T1, ms⟩, A1, h1, h2⟩ := h
    simp only at h2
    cases hm : mayDraw ops ms with
    | false => rw [hm] at h2; simp [fail_eq] at h2
    | true =>
      rw [hm] at h2
      simp only [ret_eq, Prod.mk.injEq] at h2
      obtain ⟨rfl, rfl⟩ := h2
      refine wp_region_any hmix ?_
      obtain ⟨Ts, As, Bs, vs, e1, e2, e3, e4, e5⟩ := stepsM_text ops.toList 0 T T1 A A1 ms h1
      simp only [Nat.zero_add, Array.length_toList] at e3 e4 e5
      unfold mayDraw at hm
      simp only [Bool.and_eq_true] at hm
      obtain ⟨hb, hpr⟩ := hm
      have hlen := (ahead_sound ops.toList [] [] rfl (by intro j o m ho; simp at ho)).1
      have hsound := (ahead_sound ops.toList [] [] rfl (by intro j o m ho; simp at ho)).2
      simp only [List.nil_append, Array.length_toList] at hlen hsound
      generalize (ahead ops.toList []).reverse = L at hlen hsound hpr
      have lt_of : ∀ {j : Nat} {o : Oper}, ops[j]? = some o → j < ops.size := by
        intro j o ho
        rcases Nat.lt_or_ge j ops.size with hh | hh
        · exact hh
        · rw [Array.getElem?_eq_none hh] at ho; cases ho
      have hfoot : ∀ (j : Nat) (o : Oper), ops[j]? = some o → (feet ops.toList ms L 0)[j]? = some (⟨o, j, (Bs j).R, (Bs j).W, L[j]?.getD 0⟩ : Foot) := by
        intro j o ho
        have hj := lt_of ho
        obtain ⟨o', f1, _, _, _, f5⟩ := e5 j hj
        have hL : L[j]? = some (L[j]?.getD 0) := by rw [List.getElem?_eq_getElem (by omega)]; rfl
        have := feet_get ops.toList ms L 0 j o (Bs j).R (Bs j).W (L[j]?.getD 0) (by simpa using ho) f5 hL
        simpa using this
      have plan : Plan P X call ops n Ts As Bs vs (fun j => L[j]?.getD 0) := {
        text := {
          op := fun j hj => by
            obtain ⟨o, f1, f2, f3, _, _⟩ := e5 j hj
            exact ⟨o, by simpa using f1, f2, f3⟩
          st := fun j hj => by
            obtain ⟨o, _, _, _, f4, _⟩ := e5 j hj
            exact f4 }
        small := hT.small
        loc := hloc
        back := fun j o ho e he hbd => by
          have := edgesBack_sound ops.toList 0 hb j o (by simpa using ho) e he hbd
          omega
        ahd := fun j o ho k hk => by
          have hj := lt_of ho
          exact hsound j o (L[j]?.getD 0) (by simpa using ho) (by rw [List.getElem?_eq_getElem (by omega)]; rfl) k hk
        apart := fun i j x y hij hx hy => by
          have := pairs_sound hpr i j _ _ hij (hfoot i x hx) (hfoot j y hy)
          unfold apart at this
          simp only [Bool.or_eq_true, Bool.and_eq_true] at this
          rcases this with this | ⟨⟨h1, h2⟩, h3⟩
          · exact .inl this
          · exact .inr ⟨h1, h2, h3⟩ }
      have hfree : Free μ (As 0).next (As ops.size).next := by rw [e2, e4]; exact hf
      refine Stage.any hX hcall plan hfree (Q := Q) (d := a.defers) ?_ ops.size (Array.replicate ops.size false) T A a _ μ (by simp) ?_ ?_
      · intro U B a' w' μ' s
        obtain ⟨g1, g2⟩ := s.all plan (fun _ hi => hi)
        rw [e3] at g1
        rw [e4] at g2
        have hx : MExt μ μ' A.next A1.next := by
          refine ⟨s.le, fun id h0 hn => s.free id h0 ?_⟩
          intro j hj hh
          refine hn ⟨?_, ?_⟩
          · have := plan.next_le (i := 0) (j := j) (Nat.zero_le _) (Nat.le_of_lt hj)
            rw [e2] at this
            omega
          · have := plan.next_le (i := j + 1) (j := ops.size) hj (Nat.le_refl _)
            rw [e4] at this
            omega
        have hs1 : Sim B₀ w₀ A.ro μ' A1.get w' := by
          have := s.sim
          rw [g2, e2] at this
          exact this
        have hr1 : TRel μ' n T1 a'.tmps := by
          refine ⟨s.rel.size, s.rel.small, fun t => ?_⟩
          have := s.rel.rel t
          unfold slot at this ⊢
          rw [← g1 t]
          exact this
        exact hQ μ' a' w' hx hs1 hr1 s.defers
      · rw [Array.toList_replicate]
        exact Nat.le_trans List.count_le_length (by simp)
      · have nolist : ∀ i : Nat, (Array.replicate ops.size false)[i]? = some true → False := by
          intro i hi
          rw [Array.getElem?_replicate] at hi
          split at hi
          · cases hi
          · cases hi
        exact {
          lt := fun i hi => (nolist i hi).elim
          closed := fun i o hi => (nolist i hi).elim
          slots := fun t => .inr ⟨fun i o hi => (nolist i hi).elim, by rw [e1]⟩
          heap := fun x => .inr ⟨fun i hi => (nolist i hi).elim, by rw [e2]⟩
          ro := by rw [e2]
          sim := by rw [e2]; exact hS.drawn _
          rel := hT
          defers := rfl
          le := MLe.refl _
          free := fun id h0 _ => h0 }

/-! ### Results and arguments -/
theorem ofArgs_get : ∀ (l : List Value) (i : Nat) (T : Tr Value) (t : Nat), i + l.length ≤ lim → (ofArgs l i T).get D t = if i ≤ t ∧ t < i + l.length then l[t - i]? else T.get D t
  | [], i, T, t, _ => by
    unfold ofArgs
    rw [if_neg (by intro h; have := h.2; simp only [List.length_nil, Nat.add_zero] at this; omega)]
  | v :: l, i, T, t, h => by
    simp only [List.length_cons] at h
    unfold ofArgs
    rw [ofArgs_get l (i + 1) _ t (by omega), Tr.get_set T i t _ (by omega)]
    simp only [List.length_cons]
    by_cases h1 : i + 1 ≤ t ∧ t < i + 1 + l.length
    · rw [if_pos h1, if_pos (by omega)]
      rw [show t - i = (t - (i + 1)) + 1 by omega]
      simp
    · rw [if_neg h1]
      by_cases h2 : t = i
      · subst h2
        rw [if_pos rfl, if_pos (by omega)]
        simp
      · rw [if_neg h2, if_neg (by omega)]

theorem args_rel {μ : Mu} {args args' : Array Value} {n : Nat} (ha : LR μ args.toList args'.toList) (hn : args.size ≤ n) (hl : n < lim) :
    TRel μ n (ofArgs args.toList 0 .nil) (args' ++ Array.replicate (n - args'.size) undef) := by
  have hsz : args.size = args'.size := by simpa using ha.length
  refine ⟨by simp; omega, by omega, fun t => ?_⟩
  unfold slot
  rw [ofArgs_get _ _ _ _ (by simp; omega)]
  simp only [Nat.zero_add, Nat.zero_le, true_and, Nat.sub_zero, Tr.get_nil, Array.length_toList]
  have hr := ha.getD t
  by_cases h : t < args.size
  · rw [if_pos h]
    have : (args' ++ Array.replicate (n - args'.size) undef).getD t undef = args'.toList.getD t undef := by
      rw [arr_getD, Array.toList_append, List.getD_eq_getElem?_getD, List.getElem?_append_left (by simp; omega), List.getD_eq_getElem?_getD]
    rw [this, ← List.getD_eq_getElem?_getD]
    exact hr
  · rw [if_neg h]
    have : (args' ++ Array.replicate (n - args'.size) undef).getD t undef = undef := by
      rw [arr_getD, Array.toList_append, List.getD_eq_getElem?_getD, List.getElem?_append_right (by simp; omega), Array.toList_replicate, List.getElem?_replicate]
      split <;> rfl
    rw [this]
    exact VRel.undef

theorem aResult_run {n : Nat} {T : Tr Value} {tmps : Array Value} {μ : Mu} {w : World} (hT : TRel μ n T tmps) : ∀ (l : List ResultVar) (A A' : St) (vs : List Value), Sim B₀ w₀ A.ro μ A.get w → aResult P T l A = some (vs, A') →
    (∃ vs', (l.mapM fun | .tmp t => pure (tmps.getD t undef) | .cell a t => do loadVar t (← asAddr (tmps.getD a undef)) : Sem (List Value)).run P w = .ok vs' w ∧ LR μ vs vs') ∧ A'.get = A.get ∧ A'.next = A.next ∧ A'.ro = A.ro
  | [], A, A', vs, hS, h => by
    simp only [aResult, ret_eq, Prod.mk.injEq] at h
    obtain ⟨rfl, rfl⟩ := h
    exact ⟨⟨[], rfl, .nil⟩, rfl, rfl, rfl⟩
  | .tmp t :: rest, A, A', vs, hS, h => by
    simp only [aResult, bind_eq, ret_eq, Prod.mk.injEq] at h
    obtain ⟨us, B, h1, rfl, rfl⟩ := h
    obtain ⟨⟨us', k1, k2⟩, k3, k4, k5⟩ := aResult_run hT rest A B us hS h1
    refine ⟨⟨tmps.getD t undef :: us', ?_, .cons (hT.rel t) k2⟩, k3, k4, k5⟩
    simp only [List.mapM_cons, Sem.run_bind, Sem.run_pure, Result.andThen_ok, k1]
  | .cell a t :: rest, A, A', vs, hS, h => by
    simp only [aResult, bind_eq, ret_eq, Prod.mk.injEq] at h
    obtain ⟨v, B, h1, us, B2, h2, rfl, rfl⟩ := h
    obtain ⟨v', j1, j2, j3, j4, j5⟩ := aLoad_run (P := P) hS h1 (hT.rel a)
    obtain ⟨⟨us', k1, k2⟩, k3, k4, k5⟩ := aResult_run hT rest B B2 us (by rw [j3, j5]; exact hS) h2
    have hptr : ∃ p, tmps.getD a undef = .pointer (some p) := by
      have := hT.rel a
      unfold aLoad at h1
      generalize slot T a = y0 at h1 this
      split at h1
      · generalize tmps.getD a undef = y at this
        cases this with
        | ground k hg => cases k <;> simp [ground] at hg
        | ptr _ => exact ⟨_, rfl⟩
      · simp [fail_eq] at h1
    obtain ⟨p, hp⟩ := hptr
    refine ⟨⟨v' :: us', ?_, .cons j2 k2⟩, k3.trans j3, k4.trans j4, k5.trans j5⟩
    rw [hp] at j1
    simp only [Instr.loadAt, Instr.sureAddr, Sem.run_bind, Sem.run_pure, Result.andThen_ok] at j1
    have hasA : asAddr (.pointer (some p)) = pure p := rfl
    simp only [List.mapM_cons, Sem.run_bind, hp, hasA, Sem.run_pure, Result.andThen_ok, j1, k1]

theorem aResults_run {n : Nat} {fn : Func} {T : Tr Value} {tmps : Array Value} {μ : Mu} {w : World} {A A' : St} {v : Value} (hT : TRel μ n T tmps) (hS : Sim B₀ w₀ A.ro μ A.get w) (h : aResults P fn T A = some (v, A')) :
    ∃ v', (results fn tmps).run P w = .ok v' w ∧ VRel μ v v' ∧ A'.get = A.get ∧ A'.next = A.next ∧ A'.ro = A.ro := by
  unfold aResults at h
  simp only [bind_eq] at h
  obtain ⟨vs, B, h1, h2⟩ := h
  obtain ⟨⟨vs', k1, k2⟩, k3, k4, k5⟩ := aResult_run hT fn.results.toList A B vs hS h1
  have hrun : (results fn tmps).run P w = .ok (if h : (⟨vs'⟩ : Array Value).size = 1 then (⟨vs'⟩ : Array Value)[0] else .tuple ⟨vs'⟩) w := by
    have e : (results fn tmps).run P w = (((fn.results.toList.mapM fun | .tmp t => pure (tmps.getD t undef) | .cell a t => do loadVar t (← asAddr (tmps.getD a undef)) : Sem (List Value)).run P w).andThen fun a w' =>
        (.ok a.toArray w' : Result (Array Value))).andThen fun a w' => .ok (if h : a.size = 1 then a[0] else .tuple a) w' := by
      unfold results
      rw [Array.mapM_eq_mapM_toList]
      simp only [Sem.run_bind, Sem.run_map, Sem.run_pure]
      rfl
    rw [e, k1]
    rfl
  have hlen := k2.length
  have tup : M.ret (Value.tuple ⟨vs⟩) B = some (v, A') → vs.length ≠ 1 → ∃ v', (results fn tmps).run P w = .ok v' w ∧ VRel μ v v' ∧ A'.get = A.get ∧ A'.next = A.next ∧ A'.ro = A.ro := by
    intro h2 hne
    rw [ret_eq] at h2
    cases h2
    refine ⟨.tuple ⟨vs'⟩, ?_, .tuple (LR.arr (xs := ⟨vs⟩) (ys := ⟨vs'⟩) k2).1 (LR.arr (xs := ⟨vs⟩) (ys := ⟨vs'⟩) k2).2, k3, k4, k5⟩
    rw [hrun, dif_neg (by simp; omega)]
  cases vs with
  | nil => exact tup h2 (by simp)
  | cons u us =>
    cases us with
    | nil =>
      simp only [ret_eq, Prod.mk.injEq] at h2
      obtain ⟨rfl, rfl⟩ := h2
      cases k2 with
      | @cons _ u' _ ys hv hn =>
        cases hn
        exact ⟨u', by rw [hrun]; rfl, hv, k3, k4, k5⟩
    | cons u2 us => exact tup h2 (by simp)

/-! ### Code -/
def Out.toExit : Out → Exit
  | .normal => .normal
  | .exit id => .exit id
  | .ret => .ret
  | .goto l => .goto l

/-- from a place in a scope's code on -/
def ScopeWp (P : Program) (c cur : Code) (Q : Exit → Act → World → Prop) (a : Act) (w : World) : Prop :=
  ∀ b k cs, ∃ e a' w', Q e a' w' ∧ Arrives P (lone (b.at a (.code cur :: .inScope c :: k)) cs w) b k cs e a' w'

theorem scope_of {c : Code} {Q : Exit → Act → World → Prop} {a : Act} {w : World} (h : ScopeWp P c c Q a w) : (Code.scope c).wp P Q a w := by
  intro b k cs
  obtain ⟨e, a', w', hq, harr⟩ := h b k cs
  exact ⟨e, a', w', hq, .of_steps (.one step_scope) harr⟩

theorem scope_pass {c cur : Code} {Q Q' : Exit → Act → World → Prop} {a : Act} {w : World} (h : cur.wp P Q' a w)
    (hj : ∀ l a' w', Q' (.goto l) a' w' → (∃ rest, findLabel c l = some rest ∧ ScopeWp P c rest Q a' w') ∨ (findLabel c l = none ∧ Q (.goto l) a' w'))
    (hq : ∀ e a' w', Q' e a' w' → (∀ l, e ≠ .goto l) → Q e a' w') : ScopeWp P c cur Q a w := by
  intro b k cs
  obtain ⟨e, a₁, w₁, hq1, harr⟩ := h b (.inScope c :: k) cs
  cases e with
  | normal => exact ⟨.normal, a₁, w₁, hq _ _ _ hq1 (by simp), Steps.trans harr (.one step_inScope)⟩
  | exit id => exact ⟨.exit id, a₁, w₁, hq _ _ _ hq1 (by simp), fun k' hk => harr k' (by simp [exitTo, hk])⟩
  | goto l =>
    rcases hj l a₁ w₁ hq1 with ⟨rest, hf, hs⟩ | ⟨hf, hn⟩
    · have hg : gotoIn l (.inScope c :: k) = some (.code rest :: .inScope c :: k) := by simp [gotoIn, hf]
      obtain ⟨e2, a2, w2, q2, r2⟩ := hs b k cs
      exact ⟨e2, a2, w2, q2, .of_steps (harr _ hg) r2⟩
    · exact ⟨.goto l, a₁, w₁, hn, fun k' hk => harr k' (by simp [gotoIn, hf, hk])⟩
  | ret => exact ⟨_, a₁, w₁, hq _ _ _ hq1 (by simp), harr⟩
  | panic ch => exact ⟨_, a₁, w₁, hq _ _ _ hq1 (by simp), harr⟩
  | outgrown => exact ⟨_, a₁, w₁, hq _ _ _ hq1 (by simp), harr⟩

def CodeOK (P : Program) (X : Ext) (B₀ : Nat) (w₀ : World) (k : Nat) : Prop :=
  ∀ (c : Code) (n : Nat) (T T' : Tr Value) (out : Out) (A A' : St) (μ : Mu) (a : Act) (w : World), evalCode P X k c n T A = some ((out, T'), A') → Sim B₀ w₀ A.ro μ A.get w → TRel μ n T a.tmps → Free μ A.next A'.next →
    ∀ Q : Exit → Act → World → Prop, (∀ μ' a' w', MExt μ μ' A.next A'.next → Sim B₀ w₀ A.ro μ' A'.get w' → TRel μ' n T' a'.tmps → a'.defers = a.defers → Q out.toExit a' w') → c.wp P Q a w

theorem call_ok {k : Nat} (h : CodeOK P X B₀ w₀ k) : CallOK P B₀ w₀ (enter P (evalCode P X k)) := by
  intro fn g args args' μ A A' w v hfn hbody he hS hf ha
  unfold enter at he
  cases hb : fn.body with
  | none => rw [hb] at hbody; cases hbody
  | some c =>
    rw [hb] at he
    simp only at he
    split at he
    · rename_i hsz
      simp only [bind_eq] at he
      obtain ⟨⟨out, T⟩, A1, h1, h2⟩ := he
      have hres : aResults P fn T A1 = some (v, A') ∧ (out = .normal ∨ out = .ret) := by
        cases out with
        | normal => exact ⟨h2, .inl rfl⟩
        | ret => exact ⟨h2, .inr rfl⟩
        | exit id => simp [fail_eq] at h2
        | goto l => simp [fail_eq] at h2
      obtain ⟨h2, hout⟩ := hres
      have m2 := (aResults_loc P fn T A1 v A' h2).1
      have m1 := (evalCode_loc P X k c fn.ntmps (ofArgs args.toList 0 .nil) A (out, T) A1 h1).1
      refine calls_of_wp hfn hb ?_
      refine h c fn.ntmps _ T out A A1 μ { tmps := args' ++ Array.replicate (fn.ntmps - args'.size) undef, defers := [] } w h1 hS (args_rel ha hsz.1 hsz.2) (hf.sub (Nat.le_refl _) m2.next) _ fun μ' a' w' k1 k2 k3 k4 => ?_
      have hS1 : Sim B₀ w₀ A1.ro μ' A1.get w' := by rw [m1.ro]; exact k2
      obtain ⟨v', j1, j2, j3, j4, j5⟩ := aResults_run (P := P) (fn := fn) k3 hS1 h2
      have post : a'.defers = [] ∧ ∃ r, (results fn a'.tmps).run P w' = .ok r w' ∧ ∃ μ' v'', Ending.returned r = .returned v'' ∧ MExt μ μ' A.next A'.next ∧ Sim B₀ w₀ A.ro μ' A'.get w' ∧ VRel μ' v v'' :=
        ⟨k4, v', j1, μ', v', rfl, by rw [j4]; exact k1, by rw [j3]; exact k2, j2⟩
      rcases hout with rfl | rfl
      · exact post
      · exact post
    · simp [fail_eq] at he

theorem code_ok (hmix : P.follows .mixedOrders = true) (hX : ExtOK P X) : ∀ k, CodeOK P X B₀ w₀ k ∧
    (∀ (c : Code) (n : Nat) (T T' : Tr Value) (out : Out) (A A' : St) (μ : Mu) (a : Act) (w : World), evalCode P X k (.loop c) n T A = some ((out, T'), A') → Sim B₀ w₀ A.ro μ A.get w → TRel μ n T a.tmps → Free μ A.next A'.next →
      ∀ Q : Exit → Act → World → Prop, (∀ μ' a' w', MExt μ μ' A.next A'.next → Sim B₀ w₀ A.ro μ' A'.get w' → TRel μ' n T' a'.tmps → a'.defers = a.defers → Q out.toExit a' w') → Code.rounds P c Q k a w) := by
  intro k
  induction k with
  | zero =>
    refine ⟨fun c n T T' out A A' μ a w h => ?_, fun c n T T' out A A' μ a w h => ?_⟩ <;> simp [evalCode, fail_eq] at h
  | succ k ih =>
    obtain ⟨ih1, ih2⟩ := ih
    have loops : ∀ (c : Code) (n : Nat) (T T' : Tr Value) (out : Out) (A A' : St) (μ : Mu) (a : Act) (w : World), evalCode P X (k + 1) (.loop c) n T A = some ((out, T'), A') → Sim B₀ w₀ A.ro μ A.get w → TRel μ n T a.tmps → Free μ A.next A'.next →
        ∀ Q : Exit → Act → World → Prop, (∀ μ' a' w', MExt μ μ' A.next A'.next → Sim B₀ w₀ A.ro μ' A'.get w' → TRel μ' n T' a'.tmps → a'.defers = a.defers → Q out.toExit a' w') → Code.rounds P c Q (k + 1) a w := by
      intro c n T T' out A A' μ a w h hS hT hf Q hQ
      unfold evalCode at h
      simp only [bind_eq] at h
      obtain ⟨⟨o1, T1⟩, A1, h1, h2⟩ := h
      have m1 := (evalCode_loc P X k c n T A (o1, T1) A1 h1).1
      rw [rounds_succ]
      cases o1 with
      | normal =>
        simp only at h2
        have m2 := (evalCode_loc P X k (.loop c) n T1 A1 (out, T') A' h2).1
        refine ih1 c n T T1 .normal A A1 μ a w h1 hS hT (hf.sub (Nat.le_refl _) m2.next) _ fun μ' a' w' k1 k2 k3 k4 => ?_
        refine ih2 c n T1 T' out A1 A' μ' a' w' h2 (by rw [m1.ro]; exact k2) k3 (hf.after k1 m1.next) Q fun μ'' a'' w'' j1 j2 j3 j4 => ?_
        exact hQ μ'' a'' w'' (k1.trans j1 m1.next m2.next) (by rw [← m1.ro]; exact j2) j3 (j4.trans k4)
      | exit id =>
        simp only [ret_eq, Prod.mk.injEq] at h2
        obtain ⟨⟨rfl, rfl⟩, rfl⟩ := h2
        exact ih1 c n T T1 (.exit id) A A1 μ a w h1 hS hT hf _ hQ
      | ret =>
        simp only [ret_eq, Prod.mk.injEq] at h2
        obtain ⟨⟨rfl, rfl⟩, rfl⟩ := h2
        exact ih1 c n T T1 .ret A A1 μ a w h1 hS hT hf _ hQ
      | goto l =>
        simp only [ret_eq, Prod.mk.injEq] at h2
        obtain ⟨⟨rfl, rfl⟩, rfl⟩ := h2
        exact ih1 c n T T1 (.goto l) A A1 μ a w h1 hS hT hf _ hQ
    refine ⟨?_, loops⟩
    intro c n T T' out A A' μ a w h hS hT hf Q hQ
    cases c with
    | loop c => exact wp_loop_rounds (k + 1) (loops c n T T' out A A' μ a w h hS hT hf Q hQ)
    | skip =>
      simp only [evalCode, ret_eq, Prod.mk.injEq] at h
      obtain ⟨⟨rfl, rfl⟩, rfl⟩ := h
      exact wp_skip (hQ μ a w (MExt.refl _ _ _) hS hT rfl)
    | label l =>
      simp only [evalCode, ret_eq, Prod.mk.injEq] at h
      obtain ⟨⟨rfl, rfl⟩, rfl⟩ := h
      exact wp_label (hQ μ a w (MExt.refl _ _ _) hS hT rfl)
    | ret =>
      simp only [evalCode, ret_eq, Prod.mk.injEq] at h
      obtain ⟨⟨rfl, rfl⟩, rfl⟩ := h
      exact wp_ret (hQ μ a w (MExt.refl _ _ _) hS hT rfl)
    | exit id =>
      simp only [evalCode, ret_eq, Prod.mk.injEq] at h
      obtain ⟨⟨rfl, rfl⟩, rfl⟩ := h
      exact wp_exit (hQ μ a w (MExt.refl _ _ _) hS hT rfl)
    | seq x y =>
      unfold evalCode at h
      simp only [bind_eq] at h
      obtain ⟨⟨o1, T1⟩, A1, h1, h2⟩ := h
      have m1 := (evalCode_loc P X k x n T A (o1, T1) A1 h1).1
      refine wp_seq ?_
      cases o1 with
      | normal =>
        simp only at h2
        have m2 := (evalCode_loc P X k y n T1 A1 (out, T') A' h2).1
        refine ih1 x n T T1 .normal A A1 μ a w h1 hS hT (hf.sub (Nat.le_refl _) m2.next) _ fun μ' a' w' k1 k2 k3 k4 => ?_
        refine ih1 y n T1 T' out A1 A' μ' a' w' h2 (by rw [m1.ro]; exact k2) k3 (hf.after k1 m1.next) Q fun μ'' a'' w'' j1 j2 j3 j4 => ?_
        exact hQ μ'' a'' w'' (k1.trans j1 m1.next m2.next) (by rw [← m1.ro]; exact j2) j3 (j4.trans k4)
      | exit id =>
        simp only [ret_eq, Prod.mk.injEq] at h2
        obtain ⟨⟨rfl, rfl⟩, rfl⟩ := h2
        exact ih1 x n T T1 (.exit id) A A1 μ a w h1 hS hT hf _ hQ
      | ret =>
        simp only [ret_eq, Prod.mk.injEq] at h2
        obtain ⟨⟨rfl, rfl⟩, rfl⟩ := h2
        exact ih1 x n T T1 .ret A A1 μ a w h1 hS hT hf _ hQ
      | goto l =>
        simp only [ret_eq, Prod.mk.injEq] at h2
        obtain ⟨⟨rfl, rfl⟩, rfl⟩ := h2
        exact ih1 x n T T1 (.goto l) A A1 μ a w h1 hS hT hf _ hQ
    | cond cnd x y =>
      simp only [evalCode] at h
      have hl := look_rel hT cnd
      generalize look T cnd = q at h hl
      cases q with
      | bool t =>
        cases t with
        | true => exact wp_cond_true (hl.same 1 rfl) (ih1 x n T T' out A A' μ a w h hS hT hf Q hQ)
        | false => exact wp_cond_false (hl.same 1 rfl) (ih1 y n T T' out A A' μ a w h hS hT hf Q hQ)
      | _ => simp [fail_eq] at h
    | block id x =>
      unfold evalCode at h
      simp only [bind_eq] at h
      obtain ⟨⟨o1, T1⟩, A1, h1, h2⟩ := h
      refine wp_block ?_
      cases o1 with
      | normal =>
        simp only [ret_eq, Prod.mk.injEq] at h2
        obtain ⟨⟨rfl, rfl⟩, rfl⟩ := h2
        exact ih1 x n T T1 .normal A A1 μ a w h1 hS hT hf _ hQ
      | ret =>
        simp only [ret_eq, Prod.mk.injEq] at h2
        obtain ⟨⟨rfl, rfl⟩, rfl⟩ := h2
        exact ih1 x n T T1 .ret A A1 μ a w h1 hS hT hf _ hQ
      | goto l =>
        simp only [ret_eq, Prod.mk.injEq] at h2
        obtain ⟨⟨rfl, rfl⟩, rfl⟩ := h2
        exact ih1 x n T T1 (.goto l) A A1 μ a w h1 hS hT hf _ hQ
      | exit id' =>
        simp only at h2
        split at h2
        · rename_i he
          rw [ret_eq] at h2
          simp only [Prod.mk.injEq] at h2
          obtain ⟨⟨rfl, rfl⟩, rfl⟩ := h2
          refine ih1 x n T T1 (.exit id') A A1 μ a w h1 hS hT hf _ fun μ' a' w' k1 k2 k3 k4 => ?_
          show (if id' = id then Q .normal a' w' else Q (.exit id') a' w')
          rw [if_pos he]
          exact hQ μ' a' w' k1 k2 k3 k4
        · rename_i he
          rw [ret_eq] at h2
          simp only [Prod.mk.injEq] at h2
          obtain ⟨⟨rfl, rfl⟩, rfl⟩ := h2
          refine ih1 x n T T1 (.exit id') A A1 μ a w h1 hS hT hf _ fun μ' a' w' k1 k2 k3 k4 => ?_
          show (if id' = id then Q .normal a' w' else Q (.exit id') a' w')
          rw [if_neg he]
          exact hQ μ' a' w' k1 k2 k3 k4
    | scope x =>
      unfold evalCode at h
      have go : ∀ (j : Nat) (cur : Code) (T : Tr Value) (A : St) (μ : Mu) (a' : Act) (w : World), a'.defers = a.defers → evalScope (evalCode P X k) x n j cur T A = some ((out, T'), A') → Sim B₀ w₀ A.ro μ A.get w → TRel μ n T a'.tmps → Free μ A.next A'.next →
          (∀ μ' a' w', MExt μ μ' A.next A'.next → Sim B₀ w₀ A.ro μ' A'.get w' → TRel μ' n T' a'.tmps → a'.defers = a.defers → Q out.toExit a' w') → ScopeWp P x cur Q a' w := by
        intro j
        induction j with
        | zero => intro cur T A μ a' w _ h; simp [evalScope, fail_eq] at h
        | succ j ihj =>
          intro cur T A μ a1 w hd h hS hT hf hQ
          unfold evalScope at h
          simp only [bind_eq] at h
          obtain ⟨⟨o1, T1⟩, A1, h1, h2⟩ := h
          have m1 := (evalCode_loc P X k cur n T A (o1, T1) A1 h1).1
          have straight : ∀ o2 : Out, (∀ l, o2 ≠ .goto l) → o1 = o2 → (M.ret (o2, T1)) A1 = some ((out, T'), A') → ScopeWp P x cur Q a1 w := by
            intro o2 hno ho h2
            subst ho
            simp only [ret_eq, Prod.mk.injEq] at h2
            obtain ⟨⟨e1, e2⟩, e3⟩ := h2
            rw [← e2, ← e3, ← e1] at hQ
            refine scope_pass (Q' := fun e a' w' => e = o1.toExit ∧ Q e a' w') (ih1 cur n T T1 o1 A A1 μ a1 w h1 hS hT (by rw [← e3] at hf; exact hf) _ fun μ' a' w' k1 k2 k3 k4 => ⟨rfl, hQ μ' a' w' k1 k2 k3 (k4.trans hd)⟩) (fun l a' w' hl => ?_) (fun e a' w' he _ => he.2)
            obtain ⟨hl, _⟩ := hl
            cases o1 with
            | goto l' => exact absurd rfl (hno l')
            | _ => cases hl
          cases o1 with
          | normal => exact straight _ (by intro l hl; cases hl) rfl h2
          | exit id => exact straight _ (by intro l hl; cases hl) rfl h2
          | ret => exact straight _ (by intro l hl; cases hl) rfl h2
          | goto l =>
            simp only at h2
            cases hfl : findLabel x l with
            | none =>
              rw [hfl] at h2
              simp only [ret_eq, Prod.mk.injEq] at h2
              obtain ⟨⟨rfl, rfl⟩, rfl⟩ := h2
              refine scope_pass (Q' := fun e a' w' => e = .goto l ∧ Q e a' w') (ih1 cur n T _ (.goto l) A _ μ a1 w h1 hS hT hf _ fun μ' a' w' k1 k2 k3 k4 => ⟨rfl, hQ μ' a' w' k1 k2 k3 (k4.trans hd)⟩) (fun l' a' w' hl => ?_) (fun e a' w' he hno => absurd he.1 (hno l))
              obtain ⟨e, hq⟩ := hl
              cases e
              exact .inr ⟨hfl, hq⟩
            | some rest =>
              rw [hfl] at h2
              simp only at h2
              have m2 := (evalScope_loc (evalCode_loc P X k) x n j rest T1 A1 (out, T') A' h2).1
              refine scope_pass (Q' := fun e a' w' => e = .goto l ∧ ScopeWp P x rest Q a' w') (ih1 cur n T T1 (.goto l) A A1 μ a1 w h1 hS hT (hf.sub (Nat.le_refl _) m2.next) _ fun μ' a' w' k1 k2 k3 k4 => ⟨rfl, ?_⟩) (fun l' a' w' hl => ?_) (fun e a' w' he hno => absurd he.1 (hno l))
              · refine ihj rest T1 A1 μ' a' w' (k4.trans hd) h2 (by rw [m1.ro]; exact k2) k3 (hf.after k1 m1.next) fun μ'' a'' w'' j1 j2 j3 j4 => ?_
                exact hQ μ'' a'' w'' (k1.trans j1 m1.next m2.next) (by rw [← m1.ro]; exact j2) j3 j4
              · obtain ⟨e, hq⟩ := hl
                cases e
                exact .inl ⟨rest, hfl, hq⟩
      exact scope_of (go k x T A μ a w rfl h hS hT hf hQ)
    | region id ops draw =>
      unfold evalCode at h
      simp only [bind_eq, ret_eq, Prod.mk.injEq] at h
      obtain ⟨T1, A1, h1, ⟨rfl, rfl⟩, rfl⟩ := h
      exact region_ok hmix hX (call_ok ih1) (fun fn g args => enter_loc P (evalCode_loc P X k) fn g args) h1 hS hT hf hQ
    | rangeFunc f ps x y => simp [evalCode, fail_eq] at h
    | goto l =>
      simp only [evalCode, ret_eq, Prod.mk.injEq] at h
      obtain ⟨⟨rfl, rfl⟩, rfl⟩ := h
      exact wp_goto (hQ μ a w (MExt.refl _ _ _) hS hT rfl)
    | refuse why => simp [evalCode, fail_eq] at h

/-- WHAT IS GOT OF A RUN: no memory handed over, any world -/
theorem run_calls (hmix : P.follows .mixedOrders = true) (hX : ExtOK P X) {k : Nat} {f : FuncId} {args : Array Value} {v : Value} {A' : St} (h : evalCall P X k f args start = some (v, A')) {args' : Array Value}
    (ha : LR (fun _ => none) args.toList args'.toList) (hv : gr v = true) (w : World) : Calls P f args' w fun e w' => e = .returned v ∧ Below w.heap.size w w' := by
  unfold evalCall at h
  simp only [bind_eq, opt_eq] at h
  obtain ⟨fn, B, ⟨h1, rfl⟩, h2⟩ := h
  have hb : fn.body.isSome = true := by
    unfold enter at h2
    cases hb : fn.body with
    | none => rw [hb] at h2; simp [fail_eq] at h2
    | some c => rfl
  have hS : Sim w.heap.size w start.ro (fun _ => none) start.get w := {
    ok := fun id o h => by rw [show start.get id = none from Tr.get_nil _ _] at h; cases h
    inj := fun id id' o o' b β S β' S' h => by rw [show start.get id = none from Tr.get_nil _ _] at h; cases h
    low := fun id b β S _ h => by cases h
    top := fun id b β S h => by cases h
    below := Below.refl _ _
    base := Nat.le_refl _ }
  refine (call_ok (code_ok (B₀ := w.heap.size) (w₀ := w) hmix hX k).1 fn f args args' (fun _ => none) start A' w v h1 hb h2 hS (fun _ _ _ => rfl) ha).mono ?_
  rintro e w' ⟨μ', v', rfl, _, k2, k3⟩
  rw [k3.gr hv]
  exact ⟨rfl, k2.below⟩

end
end Go.Det
