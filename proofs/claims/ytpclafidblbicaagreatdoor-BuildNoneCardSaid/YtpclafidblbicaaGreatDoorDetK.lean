/- The evaluator: slots, and operations in the order of the text. -/
import Derived.Test.YtpclafidblbicaaGreatDoorDetJ
import Derived.Test.YtpclafidblbicaaGreatDoorDetL
namespace Go.Det
open Go.RowKit (Below)

section
variable {P : Program} {B₀ : Nat} {w₀ : World} {μ : Mu} {A : St} {w : World}

structure TRel (μ : Mu) (n : Nat) (T : Tr Value) (tmps : Array Value) : Prop where
  size : tmps.size = n
  small : n ≤ lim
  rel : ∀ t : Nat, VRel μ (slot T t) (tmps.getD t undef)

theorem TRel.mono {μ' : Mu} {n : Nat} {T : Tr Value} {tmps : Array Value} (h : TRel μ n T tmps) (hm : MLe μ μ') : TRel μ' n T tmps := ⟨h.size, h.small, fun t => (h.rel t).mono hm⟩

theorem look_rel {n : Nat} {T : Tr Value} {a : Act} (h : TRel μ n T a.tmps) (x : Operand) : VRel μ (look T x) (a.eval x) := by
  cases x with
  | tmp t => exact h.rel t
  | const v =>
    simp only [look, Act.eval]
    split
    · rename_i hg; exact .of_gr hg
    · exact .any
  | global g => exact .any
  | func f => exact .of_gr rfl

theorem put_rel {n : Nat} {T T' : Tr Value} {a : Act} {dst : Option Tmp} {v v' : Value} (h : TRel μ n T a.tmps) (hp : put n T dst v = some T') (hv : VRel μ v v') : TRel μ n T' (a.put dst v').tmps := by
  unfold put at hp
  cases dst with
  | none =>
    simp only [Option.some.injEq] at hp
    subst hp
    exact h
  | some d =>
    simp only at hp
    cases hb : Nat.blt d n with
    | false => rw [hb] at hp; cases hp
    | true =>
      rw [hb] at hp
      simp only [Option.some.injEq] at hp
      subst hp
      have hd : d < n := blt_iff.1 hb
      have hsz := h.size
      refine ⟨by simp [Act.put, h.size], h.small, fun t => ?_⟩
      have hsl : slot (T.set D d (some v)) t = if t = d then v else slot T t := by
        unfold slot
        rw [Tr.get_set T d t _ (Nat.lt_of_lt_of_le hd h.small)]
        split <;> rfl
      rw [hsl]
      by_cases e : t = d
      · subst e
        rw [if_pos rfl]
        have : (a.put (some t) v').tmps.getD t undef = v' := by
          simp only [Act.put, Array.getD_eq_getD_getElem?]
          rw [Array.getElem?_setIfInBounds_self_of_lt (by rw [hsz]; exact hd)]
          rfl
        rw [this]
        exact hv
      · rw [if_neg e]
        have : (a.put (some d) v').tmps.getD t undef = a.tmps.getD t undef := by
          simp only [Act.put, Array.getD_eq_getD_getElem?]
          rw [Array.getElem?_setIfInBounds_ne (fun h' => e h'.symm)]
        rw [this]
        exact h.rel t

theorem want_ok {n : Nat} {ops : Array Oper} {T : Tr Value} {a : Act} {o : Oper} {b : Bool} (h : TRel μ n T a.tmps) (hw : want ops T o = some b) : Region.wanted o (yielded ops a.tmps) = b := by
  unfold want at hw
  unfold Region.wanted
  cases hg : o.guard with
  | none => rw [hg] at hw; simpa using hw
  | some p =>
    obtain ⟨j, c⟩ := p
    rw [hg] at hw
    simp only at hw ⊢
    unfold yielded
    cases hd : (ops[j]?).bind (·.dst) with
    | none =>
      rw [hd] at hw
      simp only [Option.some.injEq] at hw
      subst hw
      rfl
    | some d =>
      rw [hd] at hw
      simp only at hw
      simp only [Option.bind_some]
      have hr := h.rel d
      unfold slot at hr
      rw [Array.getD_eq_getD_getElem?] at hr
      cases hT : T.get D d with
      | none =>
        rw [hT] at hw hr
        simp only [Option.some.injEq] at hw
        subst hw
        simp only [Option.getD_none] at hr
        have e := hr.same 1 rfl
        cases ht : a.tmps[d]? with
        | none => rfl
        | some u => rw [ht] at e; simp only [Option.getD_some] at e; subst e; rfl
      | some v =>
        rw [hT] at hw hr
        simp only [Option.getD_some] at hr
        cases v with
        | bool x =>
          simp only [Option.some.injEq] at hw
          have e := hr.same 1 rfl
          cases ht : a.tmps[d]? with
          | none => rw [ht] at e; cases e
          | some u => rw [ht] at e; simp only [Option.getD_some] at e; subst e; rw [← hw]; simp
        | chan r => simp at hw
        | _ =>
          simp only [Option.some.injEq] at hw
          subst hw
          cases ht : a.tmps[d]? with
          | none => rfl
          | some u =>
            rw [ht] at hr
            simp only [Option.getD_some] at hr
            cases u <;> first | rfl | (cases hr; done)

/-- one operation, with what comes behind it -/
theorem step_ok {X : Ext} (hX : ExtOK P X) {call : Func → FuncId → Array Value → M Value} (hcall : CallOK P B₀ w₀ call) {ops : Array Oper} {n : Nat} {o : Oper} {T : Tr Value} {a : Act} {v : Value} {A' : St}
    (hS : Sim B₀ w₀ A.ro μ A.get w) (h : step P X call ops o T A = some (v, A')) (hf : Free μ A.next A'.next) (hT : TRel μ n T a.tmps) {i : Nat} (hi : ops[i]? = some o) {Q : Exit → Act → World → Prop}
    {K : Act → World → Prop} (hK : ∀ μ' w' v', MExt μ μ' A.next A'.next → Sim B₀ w₀ A.ro μ' A'.get w' → VRel μ' v v' → K (a.put o.dst v') w') : wpOp P ops Q i K a w := by
  unfold step at h
  simp only [bind_eq, opt_eq] at h
  obtain ⟨b, B, ⟨hw, rfl⟩, h1⟩ := h
  have hwant := want_ok hT hw
  unfold wpOp
  rw [hi]
  simp only
  cases b with
  | false =>
    simp only [ret_eq, Prod.mk.injEq] at h1
    obtain ⟨rfl, rfl⟩ := h1
    rw [hwant]
    simp only [Bool.false_eq_true, if_false]
    exact hK μ w undef (MExt.refl _ _ _) hS VRel.undef
  | true =>
    simp only at h1
    rw [hwant]
    simp only [if_true]
    refine .inl ?_
    unfold Oper.wp
    rcases evalOp_ok hX hcall (fun x => look_rel hT x) hS h1 hf with ⟨μ', w', v', k1, k2, k3, k4⟩ | ⟨⟨μ', w', k1, k2, k3⟩, rfl⟩ | ⟨g, args', k1, k2⟩
    · rw [k1]; exact hK μ' w' v' k2 k3 k4
    · rw [k1]; exact hK μ' w' undef k2 k3 VRel.undef
    · rw [k1]
      show Calls P g args' w _
      refine k2.mono ?_
      rintro e w' ⟨μ', v', rfl, k3, k4, k5⟩
      exact hK μ' w' v' k3 k4 k5

theorem steps_ok {X : Ext} (hX : ExtOK P X) {call : Func → FuncId → Array Value → M Value} (hcall : CallOK P B₀ w₀ call) (hloc : ∀ fn g args, Loc (call fn g args)) {ops : Array Oper} {n : Nat} {Q : Exit → Act → World → Prop} :
    ∀ (rest : List Oper) (i : Nat) (T T' : Tr Value) (a : Act) (A A' : St) (μ : Mu) (w : World), ops.toList.drop i = rest → steps P X call ops n rest T A = some (T', A') → Sim B₀ w₀ A.ro μ A.get w → TRel μ n T a.tmps →
      Free μ A.next A'.next → (∀ μ' a' w', MExt μ μ' A.next A'.next → Sim B₀ w₀ A.ro μ' A'.get w' → TRel μ' n T' a'.tmps → a'.defers = a.defers → Q .normal a' w') → wpOps P ops Q (List.range' i rest.length) a w
  | [], i, T, T', a, A, A', μ, w, _, h, hS, hT, hf, hQ => by
    simp only [steps, ret_eq, Prod.mk.injEq] at h
    obtain ⟨rfl, rfl⟩ := h
    exact hQ μ a w (MExt.refl _ _ _) hS hT rfl
  | o :: rest, i, T, T', a, A, A', μ, w, hd, h, hS, hT, hf, hQ => by
    simp only [steps, bind_eq, opt_eq] at h
    obtain ⟨v, B, h1, T1, B1, ⟨h2, rfl⟩, h3⟩ := h
    have m1 := (step_loc P hloc ops o T A v B h1).1
    have m2 := (steps_loc P hloc ops n rest T1 B T' A' h3).1
    have hlt : i < ops.toList.length := by
      rcases Nat.lt_or_ge i ops.toList.length with hh | hh
      · exact hh
      · rw [List.drop_eq_nil_of_le hh] at hd; cases hd
    have hi : ops[i]? = some o := by
      rw [List.drop_eq_getElem_cons hlt] at hd
      simp only [List.cons.injEq] at hd
      have := hd.1
      simp only [Array.getElem_toList] at this
      rw [Array.getElem?_eq_getElem (by simpa using hlt), this]
    have hd' : ops.toList.drop (i + 1) = rest := by
      rw [List.drop_eq_getElem_cons hlt] at hd
      simp only [List.cons.injEq] at hd
      exact hd.2
    rw [List.length_cons, List.range'_succ, wpOps_cons]
    refine step_ok hX hcall hS h1 (hf.sub (Nat.le_refl _) m2.next) hT hi fun μ' w' v' k1 k2 k3 => ?_
    have hp := put_rel (hT.mono k1.1) h2 k3
    have hro : B.ro = A.ro := m1.ro
    refine steps_ok hX hcall hloc rest (i + 1) T1 T' (a.put o.dst v') B A' μ' w' hd' h3 (by rw [hro]; exact k2) hp (hf.after k1 m1.next) fun μ'' a' w'' j1 j2 j3 j4 => ?_
    refine hQ μ'' a' w'' (k1.trans j1 m1.next m2.next) (by rw [← hro]; exact j2) j3 (j4.trans ?_)
    cases o.dst <;> rfl

end
end Go.Det
