/- The evaluator: loads, stores, new objects. -/
import Derived.Test.YtpclafidblbicaaGreatDoorDetB
import Derived.Laws.Cells
namespace Go.Det
open Go.RowKit (Below)

/-! ### Small runs -/
theorem run_underlying {P : Program} {t : TypeId} {d : TypeDesc} (h : P.underlying t = some d) (w : World) : (underlying t).run P w = .ok d w := by
  simp [underlying, h]

theorem run_typeInfo {P : Program} {t : TypeId} {i : TypeInfo} (h : P.info? t = some i) (w : World) : (typeInfo t).run P w = .ok i w := by
  simp [typeInfo, h]

theorem tsize_info {P : Program} {t : TypeId} {n : Nat} (h : tsize P t = some n) : ∃ i, P.info? t = some i ∧ i.size = n := by
  unfold tsize at h
  cases hi : P.info? t with
  | none => rw [hi] at h; cases h
  | some i => rw [hi] at h; exact ⟨i, rfl, by simpa using h⟩

theorem tzero_info {P : Program} {t : TypeId} {z : Value} (h : tzero P t = some z) : ∃ i, P.info? t = some i ∧ i.zero = some z ∧ gr z = true := by
  unfold tzero at h
  cases hi : P.info? t with
  | none => rw [hi] at h; cases h
  | some i =>
    rw [hi] at h
    simp only at h
    cases hz : i.zero with
    | none => rw [hz] at h; cases h
    | some z' =>
      rw [hz] at h
      simp only at h
      cases hg : gr z' with
      | false => rw [hg] at h; simp at h
      | true => rw [hg] at h; simp at h; subst h; exact ⟨i, rfl, hz, hg⟩

theorem run_sizeOf {P : Program} {t : TypeId} {n : Nat} (h : tsize P t = some n) (w : World) : (sizeOf t).run P w = .ok n w := by
  obtain ⟨i, hi, rfl⟩ := tsize_info h
  simp [sizeOf, run_typeInfo hi]

theorem run_zeroValue {P : Program} {t : TypeId} {z : Value} (h : tzero P t = some z) (w : World) : (zeroValue t).run P w = .ok z w := by
  obtain ⟨i, hi, hz, _⟩ := tzero_info h
  simp [zeroValue, run_typeInfo hi, hz]

theorem run_isAgg {P : Program} {t : TypeId} {b : Bool} (h : tagg P t = some b) (w : World) : (isAgg t).run P w = .ok b w := by
  unfold tagg at h
  cases hu : P.underlying t with
  | none => rw [hu] at h; cases h
  | some d =>
    rw [hu] at h
    cases d <;> simp [isAgg, run_underlying hu] at h ⊢ <;> first | exact h | (subst h; rfl)

theorem runP_run {P : Program} {α : Type} {s : Sem α} {a : α} : runP P s = some a → ∀ w, s.run P w = .ok a w := by
  induction s with
  | pure b => intro h w; simp only [runP, Option.some.injEq] at h; subst h; rfl
  | program k ih => intro h w; exact ih P h w
  | mark m k ih => intro h w; exact ih h w
  | choose q k ih =>
    intro h w
    simp only [runP] at h
    split at h
    · rename_i hq; simp only [Sem.run, hq, if_true]; exact ih 0 h w
    · cases h
  | _ => intro h; simp [runP] at h

theorem pureV_run {P : Program} {s : Sem Value} {v : Value} (h : pureV P s = some v) : (∀ w, s.run P w = .ok v w) ∧ gr v = true := by
  unfold pureV at h
  cases hr : runP P s with
  | none => rw [hr] at h; cases h
  | some u =>
    rw [hr] at h
    simp only at h
    cases hg : gr u with
    | false => rw [hg] at h; simp at h
    | true => rw [hg] at h; simp at h; subst h; exact ⟨fun w => runP_run hr w, hg⟩

theorem Addr.add_eq (b o n : Nat) : (⟨b, o, none⟩ : Addr).add n = ⟨b, o + n, none⟩ := by
  unfold Addr.add
  split
  · rename_i h; subst h; rfl
  · rfl

/-! ### What is got of a good run -/
def Good (P : Program) (B₀ : Nat) (w₀ : World) (μ : Mu) (A A' : St) (s : Sem Value) (w : World) (v : Value) : Prop :=
  ∃ μ' w' v', s.run P w = .ok v' w' ∧ MExt μ μ' A.next A'.next ∧ Sim B₀ w₀ A.ro μ' A'.get w' ∧ VRel μ' v v'

def GoodU (P : Program) (B₀ : Nat) (w₀ : World) (μ : Mu) (A A' : St) (s : Sem Unit) (w : World) : Prop :=
  ∃ μ' w', s.run P w = .ok () w' ∧ MExt μ μ' A.next A'.next ∧ Sim B₀ w₀ A.ro μ' A'.get w'

section
variable {P : Program} {B₀ : Nat} {w₀ : World} {μ : Mu} {A : St} {w : World}

theorem Good.quiet {A' : St} {s : Sem Value} {v v' : Value} (hS : Sim B₀ w₀ A.ro μ A.get w) (hg : A'.get = A.get) (hr : s.run P w = .ok v' w) (hv : VRel μ v v') :
    Good P B₀ w₀ μ A A' s w v := ⟨μ, w, v', hr, MExt.refl _ _ _, hg ▸ hS, hv⟩

/-- what lies behind an id that is there -/
theorem Sim.at (hS : Sim B₀ w₀ A.ro μ A.get w) {id b β S : Nat} {o : Obj} (ho : A.get id = some o) (hm : μ id = some (b, β, S)) :
    ∃ o', w.heap[b]? = some o' ∧ OMatch μ β S o o' := by
  obtain ⟨b1, β1, S1, o', h1, h2, h3⟩ := hS.ok id o ho
  rw [hm] at h1
  cases h1
  exact ⟨o', h2, h3⟩

theorem rdCells_eq {id : Nat} {c : Array Value} {B : St} (h : rdCells id A = some (c, B)) : ∃ e fz, A.get id = some (.cells c e fz) ∧ B = A.look id := by
  unfold rdCells at h
  simp only [bind_eq, rd_eq] at h
  obtain ⟨o, B1, ⟨h1, rfl⟩, h2⟩ := h
  cases o <;> simp only [ret_eq, fail_eq, Prod.mk.injEq] at h2
  obtain ⟨rfl, rfl⟩ := h2
  exact ⟨_, _, h1, rfl⟩

theorem rdMap_eq {r : Nat} {es : Array MapEntry} {clock : Nat} {B : St} (h : rdMap r A = some ((es, clock), B)) : A.get r = some (.map es clock) ∧ B = A.look r := by
  unfold rdMap at h
  simp only [bind_eq, rd_eq] at h
  obtain ⟨o, B1, ⟨h1, rfl⟩, h2⟩ := h
  cases o <;> simp only [ret_eq, fail_eq, Prod.mk.injEq] at h2
  obtain ⟨⟨rfl, rfl⟩, rfl⟩ := h2
  exact ⟨h1, rfl⟩

/-- the cells of a live id, in the model -/
theorem Sim.cells (hS : Sim B₀ w₀ A.ro μ A.get w) {id b β S : Nat} {c : Array Value} {e : TypeId} {fz : Nat × Nat} (ho : A.get id = some (.cells c e fz)) (hm : μ id = some (b, β, S)) :
    ∃ c' e' lo hi, w.heap[b]? = some (.cells c' e' (lo, hi)) ∧ c'.size = S ∧ β + c.size ≤ S ∧ (∀ i, i < S → ¬ (lo ≤ i ∧ i < hi)) ∧ LR μ c.toList ((c'.toList.drop β).take c.size) := by
  obtain ⟨o', h1, h2⟩ := hS.at ho hm
  obtain ⟨_, c', e', lo, hi, rfl, h3, h4, h5, h6⟩ := h2
  exact ⟨c', e', lo, hi, h1, h3, h4, h5, h6⟩

/-- a variable begins its block -/
theorem Sim.box (hS : Sim B₀ w₀ A.ro μ A.get w) {id b β S : Nat} {c : Array Value} {e : TypeId} {fz : Nat × Nat} (ho : A.get id = some (.cells c e fz)) (hm : μ id = some (b, β, S)) : fz.1 = 1 → β = 0 := by
  obtain ⟨o', h1, h2⟩ := hS.at ho hm
  exact h2.1

theorem cell_of_block {b o : Nat} {c : Array Value} {e : TypeId} {fz : Nat × Nat} (h : w.heap[b]? = some (.cells c e fz)) : w.cell? ⟨b, o, none⟩ = c[o]? := by
  simp [World.cell?, h]

theorem frozen_of_block {b o lo hi : Nat} {c : Array Value} {e : TypeId} (h : w.heap[b]? = some (.cells c e (lo, hi))) : w.frozen? ⟨b, o, none⟩ = (decide (lo ≤ o) && decide (o < hi)) := by
  simp [World.frozen?, h]

theorem ldCells_eq {c : Array Value} {off n : Nat} {l : List Value} (h : ldCells c off n = some l) : off + n ≤ c.size ∧ l = (c.toList.drop off).take n := by
  unfold ldCells at h
  split at h
  · rename_i hb; simp only [Option.some.injEq] at h; exact ⟨ble_iff.1 hb, h.symm⟩
  · cases h

/-- cells read on both sides -/
theorem Sim.ld (hS : Sim B₀ w₀ A.ro μ A.get w) {id b β S off n : Nat} {c : Array Value} {e : TypeId} {fz : Nat × Nat} {l : List Value} (ho : A.get id = some (.cells c e fz)) (hm : μ id = some (b, β, S))
    (hl : ldCells c off n = some l) : ∃ l', (loadCells ⟨b, β + off, none⟩ n).run P w = .ok ⟨l'⟩ w ∧ LR μ l l' ∧ l'.length = n := by
  obtain ⟨c', e', lo, hi, h1, h2, h3, _, h5⟩ := hS.cells ho hm
  obtain ⟨h6, rfl⟩ := ldCells_eq hl
  have hlr : LR μ ((c.toList.drop off).take n) ((((c'.toList.drop β).take c.size).drop off).take n) := (h5.drop off).take n
  have heq : (((c'.toList.drop β).take c.size).drop off).take n = (c'.toList.drop (β + off)).take n := by
    rw [List.drop_take, List.take_take, List.drop_drop]
    congr 1
    omega
  rw [heq] at hlr
  have hlen : ((c'.toList.drop (β + off)).take n).length = n := by simp; omega
  refine ⟨_, ?_, hlr, hlen⟩
  have := run_loadCells_list (P := P) w ⟨b, β + off, none⟩ ((c'.toList.drop (β + off)).take n) (fun j v hj => by
    rw [Addr.add_eq, cell_of_block h1]
    rw [List.getElem?_take] at hj
    split at hj
    · rw [List.getElem?_drop] at hj
      simpa using hj
    · cases hj)
  rw [hlen] at this
  exact this

theorem aLoad_run {t : TypeId} {a a' v : Value} {A' : St} (hS : Sim B₀ w₀ A.ro μ A.get w) (h : aLoad P t a A = some (v, A')) (ha : VRel μ a a') :
    ∃ v', (Instr.loadAt t a').run P w = .ok v' w ∧ VRel μ v v' ∧ A'.get = A.get ∧ A'.next = A.next ∧ A'.ro = A.ro := by
  unfold aLoad at h
  split at h
  · rename_i id off
    simp only [bind_eq] at h
    obtain ⟨c, B, h1, h2⟩ := h
    obtain ⟨e, fz, h3, rfl⟩ := rdCells_eq h1
    cases ha with
    | ground n hg => cases n <;> simp [ground] at hg
    | @ptr id off b β S hm =>
      cases ht : tagg P t with
      | none => rw [ht] at h2; simp [fail_eq] at h2
      | some g =>
      cases g with
      | false =>
        rw [ht] at h2
        simp only at h2
        rw [opt_eq] at h2
        obtain ⟨h4, rfl⟩ := h2
        obtain ⟨c', e', lo, hi, h5, h6, h7, _, h8⟩ := hS.cells h3 hm
        have hlt : off < c.size := by
          rcases Nat.lt_or_ge off c.size with hh | hh
          · exact hh
          · rw [Array.getElem?_eq_none hh] at h4; cases h4
        have hv := h8.getD off
        have hv1 : c.toList.getD off undef = v := by rw [List.getD_eq_getElem?_getD]; simp [h4]
        have hlt' : β + off < c'.size := by omega
        have hv2 : ((c'.toList.drop β).take c.size).getD off undef = c'[β + off] := by
          rw [List.getD_eq_getElem?_getD, List.getElem?_take, if_pos hlt, List.getElem?_drop]
          simp [hlt']
        rw [hv1, hv2] at hv
        refine ⟨_, ?_, hv, rfl, rfl, rfl⟩
        simp only [Instr.loadAt, Instr.sureAddr, loadVar, Sem.run_bind, Sem.run_pure, Result.andThen_ok, run_isAgg ht, Bool.false_eq_true, if_false, run_load, cell_of_block h5]
        simp [hlt']
      | true =>
        rw [ht] at h2
        simp only [bind_eq, opt_eq] at h2
        obtain ⟨n, B2, ⟨h4, rfl⟩, l, B3, ⟨h5, rfl⟩, h6⟩ := h2
        rw [ret_eq] at h6
        cases h6
        obtain ⟨l', h7, h8, _⟩ := hS.ld (P := P) h3 hm h5
        refine ⟨.agg ⟨l'⟩, ?_, ?_, rfl, rfl, rfl⟩
        · simp only [Instr.loadAt, Instr.sureAddr, loadVar, Sem.run_bind, Sem.run_pure, Result.andThen_ok, run_isAgg ht, if_true, run_sizeOf h4, h7]
        · exact .agg (LR.arr h8).1 (LR.arr h8).2
  · simp [fail_eq] at h

theorem aLoad_good {t : TypeId} {a a' v : Value} {A' : St} (hS : Sim B₀ w₀ A.ro μ A.get w) (h : aLoad P t a A = some (v, A')) (ha : VRel μ a a') :
    Good P B₀ w₀ μ A A' (Instr.loadAt t a') w v := by
  obtain ⟨v', h1, h2, h3, h4, h5⟩ := aLoad_run hS h ha
  exact Good.quiet hS h3 h1 h2

/-! ### Stores -/
def putO (w : World) (b : Nat) (o : Obj) : World := { w with heap := w.heap.setIfInBounds b o }

theorem putO_same {b : Nat} {o : Obj} (h : w.heap[b]? = some o) : putO w b o = w := by
  have : w.heap.setIfInBounds b o = w.heap := by
    apply Array.ext_getElem?
    intro i
    by_cases e : i = b
    · subst e
      have hlt : i < w.heap.size := by
        rcases Nat.lt_or_ge i w.heap.size with hh | hh
        · exact hh
        · rw [Array.getElem?_eq_none hh] at h; cases h
      simp [hlt] at h ⊢
      exact h.symm
    · simp [Array.getElem?_setIfInBounds_ne (fun h' => e h'.symm)]
  unfold putO
  rw [this]

theorem putO_at {b : Nat} {o o' : Obj} (h : w.heap[b]? = some o) : (putO w b o').heap[b]? = some o' := by
  have hlt : b < w.heap.size := by
    rcases Nat.lt_or_ge b w.heap.size with hh | hh
    · exact hh
    · rw [Array.getElem?_eq_none hh] at h; cases h
  simp [putO, hlt]

theorem putO_other {b k : Nat} {o : Obj} (h : k ≠ b) : (putO w b o).heap[k]? = w.heap[k]? := by
  simp [putO, Array.getElem?_setIfInBounds_ne (fun h' => h h'.symm)]

theorem putO_putO {b : Nat} {o o' : Obj} : putO (putO w b o) b o' = putO w b o' := by simp [putO]

theorem setCell_eq {b o : Nat} {c : Array Value} {e : TypeId} {fz : Nat × Nat} (h : w.heap[b]? = some (.cells c e fz)) (v : Value) :
    w.setCell ⟨b, o, none⟩ v = putO w b (.cells (c.setIfInBounds o v) e fz) := by
  unfold World.setCell putO
  congr 1
  apply Array.ext_getElem?
  intro i
  rw [Array.getElem?_modify]
  by_cases hi : b = i
  · subst hi
    have hlt : b < w.heap.size := by
      rcases Nat.lt_or_ge b w.heap.size with hh | hh
      · exact hh
      · rw [Array.getElem?_eq_none hh] at h; cases h
    simp only [if_true, h, Option.map_some]
    simp [hlt]
  · rw [if_neg hi, Array.getElem?_setIfInBounds_ne hi]

theorem stCells_size : ∀ (vs : List Value) (c : Array Value) (off : Nat), (stCells c off vs).size = c.size
  | [], _, _ => rfl
  | v :: vs, c, off => by rw [stCells, stCells_size vs]; simp

theorem run_stores {b o : Nat} {e : TypeId} {lo hi : Nat} : ∀ (vs : List Value) (i : Nat) (c : Array Value) (w : World), w.heap[b]? = some (.cells c e (lo, hi)) →
    (∀ k, k < c.size → ¬ (lo ≤ k ∧ k < hi)) → o + i + vs.length ≤ c.size → (∀ v ∈ vs, v.oneCell' = true) →
    (storeCells ⟨b, o, none⟩ vs i).run P w = .ok () (putO w b (.cells (stCells c (o + i) vs) e (lo, hi)))
  | [], i, c, w, h, _, _, _ => by
    rw [stCells, putO_same h]
    rfl
  | v :: vs, i, c, w, h, hf, hl, hv => by
    simp only [List.length_cons] at hl
    have hlt : o + i < c.size := by omega
    have hfz : w.frozen? ⟨b, o + i, none⟩ = false := by
      rw [frozen_of_block h]
      have := hf (o + i) hlt
      simp only [Bool.and_eq_false_iff, decide_eq_false_iff_not]
      rcases Nat.lt_or_ge (o + i) lo with hh | hh
      · exact .inl (by omega)
      · exact .inr (by omega)
    have hc : w.cell? ⟨b, o + i, none⟩ = some c[o + i] := by rw [cell_of_block h]; simp [hlt]
    have hv0 := hv v (by simp)
    have hsz : (c.setIfInBounds (o + i) v).size = c.size := by simp
    have ih := run_stores (o := o) vs (i + 1) (c.setIfInBounds (o + i) v) (putO w b (.cells (c.setIfInBounds (o + i) v) e (lo, hi))) (putO_at h)
      (by rw [hsz]; exact hf) (by rw [hsz]; omega) (fun x hx => hv x (by simp [hx]))
    simp only [storeCells, Sem.run_bind, Addr.add_eq, run_store P w _ v _ hv0, hc, hfz, Bool.false_eq_true, if_false, Result.andThen_ok, setCell_eq h]
    rw [ih, putO_putO]
    rfl

theorem LR.st {β n : Nat} : ∀ {vs vs' : List Value}, LR μ vs vs' → ∀ (off : Nat) (c c' : Array Value), off + vs.length ≤ n → c.size = n → β + n ≤ c'.size →
    LR μ c.toList ((c'.toList.drop β).take n) → LR μ (stCells c off vs).toList (((stCells c' (β + off) vs').toList.drop β).take n)
  | _, _, .nil, off, c, c', _, _, _, h => h
  | v :: vs, v' :: vs', .cons hv hs, off, c, c', hl, hc, hc', h => by
    simp only [stCells, List.length_cons] at hl ⊢
    rw [show β + off + 1 = β + (off + 1) by omega]
    refine LR.st hs (off + 1) (c.setIfInBounds off v) (c'.setIfInBounds (β + off) v') (by omega) (by simpa using hc) (by simpa using hc') ?_
    have := h.set hv off
    rw [Array.toList_setIfInBounds, Array.toList_setIfInBounds]
    rw [List.drop_set]
    rw [if_neg (by omega)]
    rw [show β + off - β = off by omega]
    rw [List.take_set]
    exact this

end
end Go.Det
