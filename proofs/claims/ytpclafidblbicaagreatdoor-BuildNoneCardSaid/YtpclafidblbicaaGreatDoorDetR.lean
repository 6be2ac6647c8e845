/- The evaluator: runs in pieces, the states between written out. -/
import Derived.Test.YtpclafidblbicaaGreatDoorDetQ
namespace Go.Det
open Go.RowKit (Below)

def mkTr {α : Type} : List (Nat × α) → Tr α → Tr α
  | [], t => t
  | (i, o) :: l, t => mkTr l (t.set D i (some o))

theorem mkTr_get {α : Type} : ∀ {l : List (Nat × α)} {t : Tr α} {x : Nat} {o : α}, (∀ p ∈ l, p.1 < lim) → (mkTr l t).get D x = some o → (x, o) ∈ l ∨ t.get D x = some o ∧ ∀ p ∈ l, p.1 ≠ x
  | [], t, x, o, _, h => .inr ⟨h, by simp⟩
  | (i, o') :: l, t, x, o, hl, h => by
    unfold mkTr at h
    rcases mkTr_get (fun p hp => hl p (List.mem_cons_of_mem _ hp)) h with h | ⟨h, hn⟩
    · exact .inl (List.mem_cons_of_mem _ h)
    · rw [Tr.get_set _ _ _ _ (hl (i, o') List.mem_cons_self)] at h
      split at h
      · rename_i e
        cases h
        subst e
        exact .inl List.mem_cons_self
      · rename_i e
        refine .inr ⟨h, fun p hp => ?_⟩
        rcases List.mem_cons.1 hp with rfl | hp
        · exact fun e' => e e'.symm
        · exact hn p hp

/-- nothing is said of any slot -/
def blank : Nat → Tr Value → Tr Value
  | 0, T => T
  | n + 1, T => blank n (T.set D n (some (.chan none)))

theorem blank_get : ∀ (n : Nat) (T : Tr Value) (t : Nat), n ≤ lim → (blank n T).get D t = if t < n then some (.chan none) else T.get D t
  | 0, T, t, _ => by simp [blank]
  | n + 1, T, t, h => by
    unfold blank
    rw [blank_get n _ t (by omega), Tr.get_set _ _ _ _ (by omega)]
    by_cases h1 : t < n
    · rw [if_pos h1, if_pos (by omega)]
    · rw [if_neg h1]
      by_cases h2 : t = n
      · rw [if_pos h2, if_pos (by omega)]
      · rw [if_neg h2, if_neg (by omega)]

def stOfR (ro next : Nat) (l : List (Nat × Obj)) : St := ⟨mkTr l .nil, next, ro, 0, 0⟩
def stOf (next : Nat) (l : List (Nat × Obj)) : St := stOfR 0 next l
def slotsOf (n : Nat) (l : List (Nat × Value)) : Tr Value := mkTr l (blank n .nil)

def pick (T : Tr Value) : List Nat → List (Nat × Value)
  | [] => []
  | t :: l => (t, slot T t) :: pick T l

def hold (A : St) : List Nat → Option (List (Nat × Obj))
  | [] => some []
  | i :: l =>
    match A.get i, hold A l with
    | some o, some r => some ((i, o) :: r)
    | _, _ => none

/-- a piece, and what is kept of it -/
def cutAt (P : Program) (X : Ext) (k : Nat) (c : Code) (n : Nat) (ts ids : List Nat) (T : Tr Value) (A : St) : Option (List (Nat × Value) × Nat × List (Nat × Obj)) :=
  match evalCode P X k c n T A with
  | some ((.normal, T'), A') =>
    match ts.all (fun t => Nat.blt t n) && ids.all (fun i => Nat.blt i lim), hold A' ids with
    | true, some l => some (pick T' ts, A'.next, l)
    | _, _ => none
  | _ => none

theorem pick_mem {T : Tr Value} : ∀ {l : List Nat} {p : Nat × Value}, p ∈ pick T l → p.1 ∈ l ∧ p.2 = slot T p.1
  | [], p, h => by simp [pick] at h
  | t :: l, p, h => by
    rcases List.mem_cons.1 h with rfl | h
    · exact ⟨List.mem_cons_self, rfl⟩
    · exact ⟨List.mem_cons_of_mem _ (pick_mem h).1, (pick_mem h).2⟩

theorem hold_mem {A : St} : ∀ {l : List Nat} {r : List (Nat × Obj)} {p : Nat × Obj}, hold A l = some r → p ∈ r → p.1 ∈ l ∧ A.get p.1 = some p.2
  | [], r, p, h, hp => by simp only [hold, Option.some.injEq] at h; subst h; cases hp
  | i :: l, r, p, h, hp => by
    unfold hold at h
    split at h
    · rename_i o r' h1 h2
      cases h
      rcases List.mem_cons.1 hp with rfl | hp
      · exact ⟨List.mem_cons_self, h1⟩
      · exact ⟨List.mem_cons_of_mem _ (hold_mem h2 hp).1, (hold_mem h2 hp).2⟩
    · cases h

section
variable {P : Program} {X : Ext} {fn : Func}

theorem Goes.cut (hmix : P.follows .mixedOrders = true) (hX : ExtOK P X) {k : Nat} {c d : Code} {n : Nat} {ts ids : List Nat} {T : Tr Value} {A : St} {sl : List (Nat × Value)} {next : Nat} {hl : List (Nat × Obj)} {v : Value}
    (h : cutAt P X k c n ts ids T A = some (sl, next, hl)) (hd : Goes P fn d n (slotsOf n sl) (stOfR A.ro next hl) v) : Goes P fn (.seq c d) n T A v := by
  intro B₀ w₀ μ a w hS hT hf hdf
  unfold cutAt at h
  split at h
  · rename_i T1 A1 h1
    split at h
    · rename_i l hq hh
      simp only [Option.some.injEq, Prod.mk.injEq] at h
      obtain ⟨rfl, rfl, rfl⟩ := h
      simp only [Bool.and_eq_true, List.all_eq_true, Nat.blt_eq] at hq
      obtain ⟨q1, q2⟩ := hq
      have m1 := (evalCode_loc P X k c n T A (.normal, T1) A1 h1).1
      refine wp_seq ?_
      refine (code_ok (B₀ := B₀) (w₀ := w₀) hmix hX k).1 c n T T1 .normal A A1 μ a w h1 hS hT (fun id h _ => hf id h) _ fun μ' a' w' k1 k2 k3 k4 => ?_
      refine hd B₀ w₀ μ' a' w' ?_ ?_ (fun id hid => k1.2 id (hf id (Nat.le_trans m1.next hid)) (by have : A1.next ≤ id := hid; omega)) (k4.trans hdf)
      · have : Sim B₀ w₀ A.ro μ' A1.get w' := k2
        refine this.sub fun id o ho => ?_
        rcases mkTr_get (t := .nil) (fun p hp => q2 _ (hold_mem hh hp).1) ho with h | ⟨h, _⟩
        · exact (hold_mem hh h).2
        · rw [Tr.get_nil] at h; cases h
      · refine ⟨k3.size, k3.small, fun t => ?_⟩
        have hsl : (∃ u, slot (slotsOf n (pick T1 ts)) t = u ∧ (u = slot T1 t ∨ u = .chan none)) ∨ (n ≤ t ∧ slot (slotsOf n (pick T1 ts)) t = undef) := by
          unfold slot slotsOf
          cases hg : (mkTr (pick T1 ts) (blank n .nil)).get D t with
          | none =>
            right
            refine ⟨?_, rfl⟩
            rcases Nat.lt_or_ge t n with hlt | hge
            · exfalso
              have : ∀ (l : List (Nat × Value)) (T : Tr Value), (∀ p ∈ l, p.1 < lim) → (∃ u, T.get D t = some u) → ∃ u, (mkTr l T).get D t = some u := by
                intro l
                induction l with
                | nil => intro T _ h; exact h
                | cons p l ih =>
                  intro T hl h
                  obtain ⟨i, o⟩ := p
                  unfold mkTr
                  refine ih _ (fun p hp => hl p (List.mem_cons_of_mem _ hp)) ?_
                  rw [Tr.get_set _ _ _ _ (hl (i, o) List.mem_cons_self)]
                  split
                  · exact ⟨_, rfl⟩
                  · exact h
              obtain ⟨u, hu⟩ := this (pick T1 ts) (blank n .nil) (fun p hp => Nat.lt_of_lt_of_le (q1 _ (pick_mem hp).1) k3.small) ⟨_, by rw [blank_get n _ t k3.small, if_pos hlt]⟩
              rw [hu] at hg
              cases hg
            · exact hge
          | some u =>
            left
            refine ⟨u, rfl, ?_⟩
            rcases mkTr_get (fun p hp => Nat.lt_of_lt_of_le (q1 _ (pick_mem hp).1) k3.small) hg with h | ⟨h, _⟩
            · exact .inl (pick_mem h).2
            · rw [blank_get n _ t k3.small] at h
              split at h
              · cases h; exact .inr rfl
              · rw [Tr.get_nil] at h; cases h
        rcases hsl with ⟨u, h1, h2 | h2⟩ | ⟨h1, h2⟩
        · rw [h1, h2]; exact k3.rel t
        · rw [h1, h2]; exact .any
        · rw [h2]
          have : a'.tmps.getD t undef = undef := by
            rw [Array.getD_eq_getD_getElem?, Array.getElem?_eq_none (by rw [k3.size]; exact h1)]
            rfl
          rw [this]
          exact VRel.undef
    · cases h
  · cases h

/-- the end -/
theorem Goes.fin (hmix : P.follows .mixedOrders = true) (hX : ExtOK P X) {k : Nat} {c : Code} {n : Nat} {T : Tr Value} {A : St} {v : Value} (h : (endOf P X k fn c n T A).map (·.1) = some v) (hv : gr v = true) : Goes P fn c n T A v := by
  obtain ⟨⟨u, A'⟩, h1, h2⟩ := Option.map_eq_some_iff.1 h
  simp only at h2
  subst h2
  exact Goes.of_end hmix hX h1 hv
end
end Go.Det
