/- The evaluator: to go on from a place in a function's body, with one variable in memory. -/
import Derived.Test.YtpclafidblbicaaGreatDoorDetR
import Derived.Test.YtpclafidblbicaaGreatDoorDetZ
namespace Go.Det
open Go.RowKit (Below)

theorem slots_rel {μ : Mu} {n : Nat} {sl : List (Nat × Value)} {tmps : Array Value} (hs : tmps.size = n) (hn : n ≤ lim) (hl : ∀ p ∈ sl, p.1 < n ∧ VRel μ p.2 (tmps.getD p.1 undef)) : TRel μ n (slotsOf n sl) tmps := by
  refine ⟨hs, hn, fun t => ?_⟩
  have hlim : ∀ p ∈ sl, p.1 < lim := fun p hp => Nat.lt_of_lt_of_le (hl p hp).1 hn
  unfold slot slotsOf
  cases hg : (mkTr sl (blank n .nil)).get D t with
  | some u =>
    rcases mkTr_get hlim hg with h | ⟨h, _⟩
    · exact (hl _ h).2
    · rw [blank_get n _ t hn] at h
      split at h
      · cases h; exact .any
      · rw [Tr.get_nil] at h; cases h
  | none =>
    rcases Nat.lt_or_ge t n with hlt | hge
    · exfalso
      have : ∀ (l : List (Nat × Value)) (T : Tr Value), (∀ p ∈ l, p.1 < lim) → (∃ u, T.get D t = some u) → ∃ u, (mkTr l T).get D t = some u := by
        intro l
        induction l with
        | nil => intro T _ h; exact h
        | cons p l ih =>
          intro T hl h
          obtain ⟨i, o⟩ := p
          unfold mkTr
          refine ih _ (fun p hp => hl p (List.mem_cons_of_mem _ hp)) ?_
          rw [Tr.get_set _ _ _ _ (hl (i, o) List.mem_cons_self)]
          split
          · exact ⟨_, rfl⟩
          · exact h
      obtain ⟨u, hu⟩ := this sl (blank n .nil) hlim ⟨_, by rw [blank_get n _ t hn, if_pos hlt]⟩
      rw [hu] at hg
      cases hg
    · have : tmps.getD t undef = undef := by
        rw [Array.getD_eq_getD_getElem?, Array.getElem?_eq_none (by rw [hs]; exact hge)]
        rfl
      rw [this]
      exact VRel.undef

def oneMu (b S : Nat) : Mu := fun id => if id = 0 then some (b, 0, S) else none

theorem one_sim {W w' : World} {c c' : Array Value} {t t' : TypeId} {b : Nat} (hb : Below W.heap.size W w') (hge : W.heap.size ≤ b) (hw : w'.heap[b]? = some (.cells c' t' (0, 0))) (hl : LR (oneMu b c'.size) c.toList c'.toList) :
    Sim W.heap.size W 0 (oneMu b c'.size) (stOf 1 [(0, .cells c t (1, 0))]).get w' := by
  have hsz : c.size = c'.size := by simpa using hl.length
  have only : ∀ id o, (stOf 1 [(0, .cells c t (1, 0))]).get id = some o → id = 0 ∧ o = .cells c t (1, 0) := by
    intro id o h
    have hlim : ∀ p ∈ ([(0, .cells c t (1, 0))] : List (Nat × Obj)), p.1 < lim := by
      intro p hp
      simp only [List.mem_cons, List.not_mem_nil, or_false] at hp
      subst hp
      show 0 < lim
      decide
    rcases mkTr_get hlim h with h | ⟨h, _⟩
    · simp only [List.mem_cons, Prod.mk.injEq, List.not_mem_nil, or_false] at h
      exact h
    · rw [Tr.get_nil] at h; cases h
  have hmu : ∀ id p, oneMu b c'.size id = some p → id = 0 ∧ p = (b, 0, c'.size) := by
    intro id p h
    unfold oneMu at h
    split at h
    · rename_i e; cases h; exact ⟨e, rfl⟩
    · cases h
  exact {
    ok := fun id o h => by
      obtain ⟨rfl, rfl⟩ := only id o h
      refine ⟨b, 0, c'.size, _, rfl, hw, fun _ => rfl, c', t', 0, 0, rfl, rfl, by omega, by omega, ?_⟩
      rw [List.drop_zero, hsz, ← Array.length_toList, List.take_length]
      exact hl
    inj := fun id id' o o' _ _ _ _ _ h h' _ _ => by rw [(only id o h).1, (only id' o' h').1]
    low := fun id b' β S _ h => by
      have := (hmu id _ h).2
      simp only [Prod.mk.injEq] at this
      omega
    top := fun id b' β S h => by
      have := (hmu id _ h).2
      simp only [Prod.mk.injEq] at this
      rw [this.1]
      exact (Array.getElem?_eq_some_iff.1 hw).1
    below := hb
    base := Nat.le_refl _ }

/-- several variables in memory -/
theorem sim_objs {W w' : World} {n : Nat} {L : List (Nat × Obj)} {μ : Mu} (hb : Below W.heap.size W w')
    (hL : ∀ p ∈ L, p.1 < lim ∧ ∃ c t b c' t', p.2 = .cells c t (1, 0) ∧ μ p.1 = some (b, 0, c'.size) ∧ w'.heap[b]? = some (.cells c' t' (0, 0)) ∧ LR μ c.toList c'.toList)
    (hinj : ∀ id id' b β S β' S', μ id = some (b, β, S) → μ id' = some (b, β', S') → id = id')
    (hlow : ∀ id b β S, μ id = some (b, β, S) → W.heap.size ≤ b ∧ b < w'.heap.size) : Sim W.heap.size W 0 μ (stOf n L).get w' := by
  have only : ∀ id o, (stOf n L).get id = some o → (id, o) ∈ L := by
    intro id o h
    rcases mkTr_get (fun p hp => (hL p hp).1) h with h | ⟨h, _⟩
    · exact h
    · rw [Tr.get_nil] at h; cases h
  exact {
    ok := fun id o h => by
      obtain ⟨_, c, t, b, c', t', h1, h2, h3, h4⟩ := hL _ (only id o h)
      simp only at h1 h2
      subst h1
      have hsz : c.size = c'.size := by simpa using h4.length
      refine ⟨b, 0, c'.size, _, h2, h3, fun _ => rfl, c', t', 0, 0, rfl, rfl, by omega, by omega, ?_⟩
      rw [List.drop_zero, hsz, ← Array.length_toList, List.take_length]
      exact h4
    inj := fun id id' o o' b β S β' S' _ _ h h' => hinj _ _ _ _ _ _ _ h h'
    low := fun id b β S _ h => (hlow _ _ _ _ h).1
    top := fun id b β S h => (hlow _ _ _ _ h).2
    below := hb
    base := Nat.le_refl _ }

/-- a start with symbols: their ids lie below n -/
def startN (n : Nat) : St := ⟨.nil, n, n, 0, 0⟩

theorem run_syms {P : Program} (hmix : P.follows .mixedOrders = true) {X : Ext} (hX : ExtOK P X) {n k : Nat} {f : FuncId} {args : Array Value} {v : Value} (h : (evalCall P X k f args (startN n)).map (·.1) = some v) {μ : Mu} {args' : Array Value}
    (ha : LR μ args.toList args'.toList) (hv : gr v = true) (w : World) (hμ : ∀ id, n ≤ id → μ id = none) (htop : ∀ id b β S, μ id = some (b, β, S) → b < w.heap.size) : Calls P f args' w fun e w' => e = .returned v ∧ Below w.heap.size w w' := by
  obtain ⟨⟨u, A'⟩, h1, h2⟩ := Option.map_eq_some_iff.1 h
  simp only at h2
  subst h2
  unfold evalCall at h1
  simp only [bind_eq, opt_eq] at h1
  obtain ⟨fn, B, ⟨h1, rfl⟩, h2⟩ := h1
  have hb : fn.body.isSome = true := by
    unfold enter at h2
    cases hb : fn.body with
    | none => rw [hb] at h2; simp [fail_eq] at h2
    | some c => rfl
  have hS : Sim w.heap.size w (startN n).ro μ (startN n).get w := {
    ok := fun id o h => by rw [show (startN n).get id = none from Tr.get_nil _ _] at h; cases h
    inj := fun id id' o o' b β S β' S' h => by rw [show (startN n).get id = none from Tr.get_nil _ _] at h; cases h
    low := fun id b β S hle h => by rw [hμ id hle] at h; cases h
    top := htop
    below := Below.refl _ _
    base := Nat.le_refl _ }
  refine (call_ok (code_ok (B₀ := w.heap.size) (w₀ := w) hmix hX k).1 fn f args args' μ (startN n) A' w u h1 hb h2 hS (fun id h _ => hμ id h) ha).mono ?_
  rintro e w' ⟨μ', v', rfl, _, k2, k3⟩
  rw [k3.gr hv]
  exact ⟨rfl, k2.below⟩

/-- a function that tells of a text whether it is a name -/
def aNameV (l : List Value) : Option Value :=
  match l with
  | [.chan (some r)] =>
    match Nat.ble 16 r && Nat.beq (r % 8) 2 with
    | true => some (.bool true)
    | false =>
      match Nat.ble 16 r && Nat.beq (r % 8) 3 with
      | true => some (.bool false)
      | false => none
  | [.string s] => some (.bool (nameB s))
  | _ => none

def nameK : Known := ⟨fun args => M.opt (aNameV args.toList), fun _ => Loc.opt _⟩

theorem name_ok {P : Program} {g : FuncId} (h : ∀ s w, Calls P g #[.string s] w fun e w' => e = .returned (.bool (nameB s)) ∧ Below w.heap.size w w') : KnownOK P g nameK := by
  intro B₀ w₀ args args' μ A A' w u h0 hS hf ha
  have hu : aNameV args.toList = some u ∧ A' = A := by
    have h1 : (M.opt (aNameV args.toList)) A = some (u, A') := h0
    rw [opt_eq] at h1
    exact ⟨h1.1, h1.2.symm⟩
  clear h0
  obtain ⟨hu, rfl⟩ := hu
  have fin : ∀ s, args' = #[.string s] → u = .bool (nameB s) → Calls P g args' w fun e w' => ∃ μ' v', e = .returned v' ∧ MExt μ μ' A'.next A'.next ∧ Sim B₀ w₀ A'.ro μ' A'.get w' ∧ VRel μ' u v' := by
    rintro s rfl rfl
    refine (h s w).mono ?_
    rintro e w' ⟨rfl, hb⟩
    exact ⟨μ, _, rfl, MExt.refl _ _ _, Sim.later hS hb, .of_gr rfl⟩
  unfold aNameV at hu
  split at hu
  · rename_i r hl
    rw [hl] at ha
    obtain ⟨y, hy, hrel⟩ := LR.one_inv ha
    have hy : args' = #[y] := Array.ext' hy
    split at hu
    · rename_i h2
      cases hu
      simp only [Bool.and_eq_true, Nat.ble_eq, Nat.beq_eq] at h2
      obtain ⟨b, β, S, _, rfl, ho⟩ := sym_val h2.1 hrel
      exact fin (dec β) (by rw [hy]; unfold symV; rw [if_pos (by omega)]) (by rw [ho.1 h2.2])
    · split at hu
      · rename_i h3
        cases hu
        simp only [Bool.and_eq_true, Nat.ble_eq, Nat.beq_eq] at h3
        obtain ⟨b, β, S, _, rfl, ho⟩ := sym_val h3.1 hrel
        exact fin (dec β) (by rw [hy]; unfold symV; rw [if_pos (by omega)]) (by rw [(ho.2 h3.2).1])
      · cases hu
  · rename_i s hl
    rw [hl] at ha
    obtain ⟨y, hy, hrel⟩ := LR.one_inv ha
    have e := hrel.same 1 rfl
    subst e
    cases hu
    exact fin s (Array.ext' hy) rfl
  · cases hu

end Go.Det
