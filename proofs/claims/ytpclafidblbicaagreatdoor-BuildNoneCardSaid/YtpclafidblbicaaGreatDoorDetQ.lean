/- The evaluator: a run piece by piece, where slots may be forgotten between. -/
import Derived.Test.YtpclafidblbicaaGreatDoorDetP
namespace Go.Det
open Go.RowKit (Below)

/-- slots of which nothing is said from here on -/
def forget (n : Nat) : List Nat → Tr Value → Option (Tr Value)
  | [], T => some T
  | t :: rest, T =>
    match one (slot T t), put n T (some t) (.chan (some 0)) with
    | true, some T => forget n rest T
    | _, _ => none

theorem forget_rel {μ : Mu} {n : Nat} {tmps : Array Value} : ∀ {L : List Nat} {T T' : Tr Value}, forget n L T = some T' → TRel μ n T tmps → TRel μ n T' tmps
  | [], T, T', h, r => by simp only [forget, Option.some.injEq] at h; subst h; exact r
  | t :: rest, T, T', h, r => by
    unfold forget at h
    split at h
    · rename_i T1 ho hp
      refine forget_rel h ⟨r.size, r.small, fun x => ?_⟩
      unfold slot
      rw [put_get r.small hp x]
      by_cases e : some t = some x
      · rw [if_pos e]
        cases e
        exact .unk ((r.rel t).one ho) Tag.zero
      · rw [if_neg e]
        exact r.rel x
    · cases h

/-- from here the code goes to its end, with this result -/
def Goes (P : Program) (fn : Func) (c : Code) (n : Nat) (T : Tr Value) (A : St) (v : Value) : Prop :=
  ∀ (B₀ : Nat) (w₀ : World) (μ : Mu) (a : Act) (w : World), Sim B₀ w₀ A.ro μ A.get w → TRel μ n T a.tmps → (∀ id, A.next ≤ id → μ id = none) → a.defers = [] →
    c.wp P (bodyPost P fn fun e w' => e = .returned v ∧ Below B₀ w₀ w') a w

section
variable {P : Program} {X : Ext} {fn : Func}

/-- what is left of a function's code, run to its end: the result -/
def endOf (P : Program) (X : Ext) (k : Nat) (fn : Func) (c : Code) (n : Nat) (T : Tr Value) : M Value := do
  match ← evalCode P X k c n T with
  | (.normal, T) => aResults P fn T
  | (.ret, T) => aResults P fn T
  | _ => M.fail

theorem Goes.of_end (hmix : P.follows .mixedOrders = true) (hX : ExtOK P X) {k : Nat} {c : Code} {n : Nat} {T : Tr Value} {A A' : St} {v : Value} (h : endOf P X k fn c n T A = some (v, A')) (hv : gr v = true) : Goes P fn c n T A v := by
  intro B₀ w₀ μ a w hS hT hf hd
  unfold endOf at h
  simp only [bind_eq] at h
  obtain ⟨⟨out, T1⟩, A1, h1, h2⟩ := h
  have hres : aResults P fn T1 A1 = some (v, A') ∧ (out = .normal ∨ out = .ret) := by
    cases out with
    | normal => exact ⟨h2, .inl rfl⟩
    | ret => exact ⟨h2, .inr rfl⟩
    | exit id => simp [fail_eq] at h2
    | goto l => simp [fail_eq] at h2
  obtain ⟨h2, hout⟩ := hres
  have m1 := (evalCode_loc P X k c n T A (out, T1) A1 h1).1
  refine (code_ok (B₀ := B₀) (w₀ := w₀) hmix hX k).1 c n T T1 out A A1 μ a w h1 hS hT (fun id h _ => hf id h) _ fun μ' a' w' k1 k2 k3 k4 => ?_
  have hS1 : Sim B₀ w₀ A1.ro μ' A1.get w' := by rw [m1.ro]; exact k2
  obtain ⟨v', j1, j2, j3, j4, j5⟩ := aResults_run (P := P) (fn := fn) k3 hS1 h2
  have e := j2.gr hv
  subst e
  have post : a'.defers = [] ∧ ∃ r, (results fn a'.tmps).run P w' = .ok r w' ∧ Ending.returned r = .returned v' ∧ Below B₀ w₀ w' := ⟨k4.trans hd, v', j1, rfl, k2.below⟩
  rcases hout with rfl | rfl
  · exact post
  · exact post

/-- a piece, and what follows -/
def piece (P : Program) (X : Ext) (k : Nat) (c : Code) (n : Nat) (L : List Nat) (T : Tr Value) : M (Tr Value) := do
  match ← evalCode P X k c n T with
  | (.normal, T) => M.opt (forget n L T)
  | _ => M.fail

theorem Goes.seq (hmix : P.follows .mixedOrders = true) (hX : ExtOK P X) {k : Nat} {c d : Code} {n : Nat} {L : List Nat} {T T' : Tr Value} {A A' : St} {v : Value} (h : piece P X k c n L T A = some (T', A'))
    (hd : Goes P fn d n T' A' v) : Goes P fn (.seq c d) n T A v := by
  intro B₀ w₀ μ a w hS hT hf hdf
  unfold piece at h
  simp only [bind_eq] at h
  obtain ⟨⟨out, T1⟩, A1, h1, h2⟩ := h
  cases out with
  | normal =>
    simp only [opt_eq] at h2
    obtain ⟨h2, rfl⟩ := h2
    have m1 := (evalCode_loc P X k c n T A (.normal, T1) A1 h1).1
    refine wp_seq ?_
    refine (code_ok (B₀ := B₀) (w₀ := w₀) hmix hX k).1 c n T T1 .normal A A1 μ a w h1 hS hT (fun id h _ => hf id h) _ fun μ' a' w' k1 k2 k3 k4 => ?_
    refine hd B₀ w₀ μ' a' w' (by rw [m1.ro]; exact k2) (forget_rel h2 k3) (fun id hid => k1.2 id (hf id (Nat.le_trans m1.next hid)) (by omega)) (k4.trans hdf)
  | exit id => simp [fail_eq] at h2
  | ret => simp [fail_eq] at h2
  | goto l => simp [fail_eq] at h2

theorem Goes.calls {f : FuncId} (hf : P.funcs[f]? = some fn) {c : Code} (hb : fn.body = some c) {args args' : Array Value} {v : Value} (hn : args.size ≤ fn.ntmps) (hl : fn.ntmps < lim)
    (ha : LR (fun _ => none) args.toList args'.toList) (h : Goes P fn c fn.ntmps (ofArgs args.toList 0 .nil) start v) (w : World) : Calls P f args' w fun e w' => e = .returned v ∧ Below w.heap.size w w' := by
  refine calls_of_wp hf hb ?_
  refine h w.heap.size w (fun _ => none) _ w ?_ (args_rel ha hn hl) (fun _ _ => rfl) rfl
  exact {
    ok := fun id o h => by rw [show start.get id = none from Tr.get_nil _ _] at h; cases h
    inj := fun id id' o o' b β S β' S' h => by rw [show start.get id = none from Tr.get_nil _ _] at h; cases h
    low := fun id b β S _ h => by cases h
    top := fun id b β S h => by cases h
    below := Below.refl _ _
    base := Nat.le_refl _ }

end
end Go.Det
