/- The evaluator: to go on from a place in a function's body, with one variable in memory. -/
import Derived.Test.YtligooejegmmpaaGreatDoorDetR
namespace Go.Det
open Go.RowKit (Below)

theorem slots_rel {μ : Mu} {n : Nat} {sl : List (Nat × Value)} {tmps : Array Value} (hs : tmps.size = n) (hn : n ≤ lim) (hl : ∀ p ∈ sl, p.1 < n ∧ VRel μ p.2 (tmps.getD p.1 undef)) : TRel μ n (slotsOf n sl) tmps := by
  refine ⟨hs, hn, fun t => ?_⟩
  have hlim : ∀ p ∈ sl, p.1 < lim := fun p hp => Nat.lt_of_lt_of_le (hl p hp).1 hn
  unfold slot slotsOf
  cases hg : (mkTr sl (blank n .nil)).get D t with
  | some u =>
    rcases mkTr_get hlim hg with h | ⟨h, _⟩
    · exact (hl _ h).2
    · rw [blank_get n _ t hn] at h
      split at h
      · cases h; exact .any
      · rw [Tr.get_nil] at h; cases h
  | none =>
    rcases Nat.lt_or_ge t n with hlt | hge
    · exfalso
      have : ∀ (l : List (Nat × Value)) (T : Tr Value), (∀ p ∈ l, p.1 < lim) → (∃ u, T.get D t = some u) → ∃ u, (mkTr l T).get D t = some u := by
        intro l
        induction l with
        | nil => intro T _ h; exact h
        | cons p l ih =>
          intro T hl h
          obtain ⟨i, o⟩ := p
          unfold mkTr
          refine ih _ (fun p hp => hl p (List.mem_cons_of_mem _ hp)) ?_
          rw [Tr.get_set _ _ _ _ (hl (i, o) List.mem_cons_self)]
          split
          · exact ⟨_, rfl⟩
          · exact h
      obtain ⟨u, hu⟩ := this sl (blank n .nil) hlim ⟨_, by rw [blank_get n _ t hn, if_pos hlt]⟩
      rw [hu] at hg
      cases hg
    · have : tmps.getD t undef = undef := by
        rw [Array.getD_eq_getD_getElem?, Array.getElem?_eq_none (by rw [hs]; exact hge)]
        rfl
      rw [this]
      exact VRel.undef

def oneMu (b S : Nat) : Mu := fun id => if id = 0 then some (b, 0, S) else none

theorem one_sim {W w' : World} {c c' : Array Value} {t t' : TypeId} {b : Nat} (hb : Below W.heap.size W w') (hge : W.heap.size ≤ b) (hw : w'.heap[b]? = some (.cells c' t' (0, 0))) (hl : LR (oneMu b c'.size) c.toList c'.toList) :
    Sim W.heap.size W 0 (oneMu b c'.size) (stOf 1 [(0, .cells c t (1, 0))]).get w' := by
  have hsz : c.size = c'.size := by simpa using hl.length
  have only : ∀ id o, (stOf 1 [(0, .cells c t (1, 0))]).get id = some o → id = 0 ∧ o = .cells c t (1, 0) := by
    intro id o h
    have hlim : ∀ p ∈ ([(0, .cells c t (1, 0))] : List (Nat × Obj)), p.1 < lim := by
      intro p hp
      simp only [List.mem_cons, List.not_mem_nil, or_false] at hp
      subst hp
      show 0 < lim
      decide
    rcases mkTr_get hlim h with h | ⟨h, _⟩
    · simp only [List.mem_cons, Prod.mk.injEq, List.not_mem_nil, or_false] at h
      exact h
    · rw [Tr.get_nil] at h; cases h
  have hmu : ∀ id p, oneMu b c'.size id = some p → id = 0 ∧ p = (b, 0, c'.size) := by
    intro id p h
    unfold oneMu at h
    split at h
    · rename_i e; cases h; exact ⟨e, rfl⟩
    · cases h
  exact {
    ok := fun id o h => by
      obtain ⟨rfl, rfl⟩ := only id o h
      refine ⟨b, 0, c'.size, _, rfl, hw, fun _ => rfl, c', t', 0, 0, rfl, rfl, by omega, by omega, ?_⟩
      rw [List.drop_zero, hsz, ← Array.length_toList, List.take_length]
      exact hl
    inj := fun id id' o o' _ _ _ _ _ h h' _ _ => by rw [(only id o h).1, (only id' o' h').1]
    low := fun id b' β S _ h => by
      have := (hmu id _ h).2
      simp only [Prod.mk.injEq] at this
      omega
    top := fun id b' β S h => by
      have := (hmu id _ h).2
      simp only [Prod.mk.injEq] at this
      rw [this.1]
      exact (Array.getElem?_eq_some_iff.1 hw).1
    below := hb
    base := Nat.le_refl _ }

end Go.Det
