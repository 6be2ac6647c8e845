/- The walk's laws for 'range m' and its steps by the map's entries as they lie, whatever the keys. -/
import Derived.Maps.Range
import Derived.Maps.RangeRun
import Derived.OwnWalkIn
import Derived.RangeFuncGives
namespace Go.Det
open Go.RowKit Go.Maps
open Go.ChangeMaps (setBlock)
open Go.MapKept (heap_set)

section
variable {P : Program} {F : Fence} {n : Nat} {ops : Array Oper} {rest : List Oper} {o : Oper} {a : Act} {w : World} {Q : Exit → Act → World → Prop}

theorem wpListIn_range_raw (hg : o.guard = none) (m : Operand) (t : TypeId) (hop : o.op = Op.range t m) (k e : TypeId) (ht : P.underlying t = some (.map k e)) (b : Nat) (es : Array MapEntry) (clock : Nat)
    (hm : a.eval m = .map (some b)) (hb : w.heap[b]? = some (.map es clock))
    (hK : wpListIn F n P ops Q rest (a.put o.dst (.pointer (some ⟨w.heap.size, 0, none⟩))) (w.alloc (.mapIter (some b) clock #[] clock))) :
    wpListIn F n P ops Q (o :: rest) a w := by
  refine wpListIn_plain hg fun K' hK' => ?_
  have hrun : (Instr.range t (.map (some b))).run P w = .ok (.pointer (some ⟨w.heap.size, 0, none⟩)) (w.alloc (.mapIter (some b) clock #[] clock)) := by
    simp only [Instr.range, getObj, newObj, Sem.run_bind, run_underlying ht, Result.andThen, Sem.run, hb]
    rfl
  unfold Oper.wpIn
  refine ⟨by simp [Oper.about, hop], ?_⟩
  rw [Oper.semAt_plain F _ _ (by rw [hop]; intro c hc'; cases hc')]
  simp [execOp, hop, hm, hrun, Result.andThen]
  exact hK' _ _ hK

theorem wpListIn_next_raw (hg : o.guard = none) (it : Operand) (hop : o.op = Op.next it false) (b r since c0 : Nat) (seen : Array Nat) (es : Array MapEntry) (clock : Nat) (hit : a.eval it = .pointer (some ⟨r, 0, none⟩))
    (hr : w.heap[r]? = some (.mapIter (some b) since seen c0)) (hb : w.heap[b]? = some (.map es clock)) (hold : ∀ x ∈ es.toList, x.born < since) (hsc : since ≤ c0)
    (hDone : (leftOf es seen).size = 0 → wpListIn F n P ops Q rest (a.put o.dst (.tuple #[.bool false])) w)
    (hMore : ∀ e ∈ (leftOf es seen).toList, ∀ w1, w1.heap[r]? = some (.mapIter (some b) since (seen.push e.born) clock) → w1.heap[b]? = some (.map es clock) → w.grownBy w1 (some r) → w1.heap.size = w.heap.size →
      wpListIn F n P ops Q rest (a.put o.dst (.tuple #[.bool true, e.key, e.val])) w1) :
    wpListIn F n P ops Q (o :: rest) a w := by
  refine wpListIn_plain hg fun K' hK' => ?_
  unfold Oper.wpIn
  refine ⟨by simp [Oper.about, hop], ?_⟩
  rw [Oper.semAt_plain F _ _ (by rw [hop]; intro c hc'; cases hc')]
  have hne : b ≠ r := by intro e; subst e; rw [hr] at hb; cases hb
  rcases run_next_at (P := P) w o.type r b since c0 seen es clock hr hb hold hsc with ⟨h0, hrun⟩ | ⟨e, he, w1, hal, hrun⟩
  · simp [execOp, hop, hit, hrun, Result.andThen]
    exact hK' _ _ (hDone h0)
  · have hr1 : w1.heap[r]? = some (.mapIter (some b) since seen c0) := by rcases hal with rfl | rfl <;> exact hr
    have hb1 : w1.heap[b]? = some (.map es clock) := by rcases hal with rfl | rfl <;> exact hb
    have hset := heap_set (o' := .mapIter (some b) since (seen.push e.born) clock) hr1
    simp [execOp, hop, hit, hrun, Result.andThen]
    refine hK' _ _ (hMore e he _ hset.1 ((hset.2 b hne).trans hb1) ?_ ?_)
    · rcases hal with rfl | rfl <;> exact ⟨rfl, rfl, rfl, by simp [setBlock], fun i _ hi => hset.2 i (fun e1 => hi (by rw [e1]))⟩
    · rcases hal with rfl | rfl <;> simp [setBlock]
end

/-! ### What has come, and what is left -/
theorem perm_filter_born {e : MapEntry} : ∀ {l : List MapEntry}, (l.map (·.born)).Nodup → e ∈ l → l.Perm (e :: l.filter fun x => !(x.born == e.born))
  | [], _, h => by cases h
  | x :: l, hn, h => by
    simp only [List.map_cons, List.nodup_cons] at hn
    by_cases hx : x.born = e.born
    · have hxe : x = e := by
        rcases List.mem_cons.1 h with h | h
        · exact h.symm
        · exact absurd (List.mem_map.2 ⟨e, h, hx.symm⟩) hn.1
      subst hxe
      have : l.filter (fun y => !(y.born == x.born)) = l := by
        rw [List.filter_eq_self]
        intro y hy
        have : y.born ≠ x.born := fun e => hn.1 (List.mem_map.2 ⟨y, hy, e⟩)
        simpa using this
      rw [List.filter_cons_of_neg (by simp), this]
    · have he : e ∈ l := by
        rcases List.mem_cons.1 h with h | h
        · exact absurd (by rw [h]) hx
        · exact h
      rw [List.filter_cons_of_pos (by simpa using hx)]
      exact ((perm_filter_born hn.2 he).cons x).trans (List.Perm.swap _ _ _)

theorem left_step {es : Array MapEntry} {seen : Array Nat} {e : MapEntry} (hn : (es.toList.map (·.born)).Nodup) (he : e ∈ (leftOf es seen).toList) : (leftOf es seen).toList.Perm (e :: (leftOf es (seen.push e.born)).toList) := by
  have hsub : (leftOf es seen).toList = es.toList.filter fun x => !seen.contains x.born := by unfold leftOf; rw [Array.toList_filter]
  have hsub2 : (leftOf es (seen.push e.born)).toList = (leftOf es seen).toList.filter fun x => !(x.born == e.born) := by
    rw [hsub]
    unfold leftOf
    rw [Array.toList_filter, List.filter_filter]
    congr 1
    funext x
    rw [contains_push]
    cases seen.contains x.born <;> cases (x.born == e.born) <;> rfl
  rw [hsub2]
  refine perm_filter_born ?_ he
  rw [hsub]
  exact (List.filter_sublist.map _).nodup hn

/-- between two rounds: the keys that have come, and those to come -/
def Came (es : Array MapEntry) (seen : Array Nat) (ss : List Value) : Prop := (ss ++ (leftOf es seen).toList.map (·.key)).Perm (es.toList.map (·.key))

theorem Came.start (es : Array MapEntry) : Came es #[] [] := by
  have : (leftOf es #[]).toList = es.toList := by
    unfold leftOf
    rw [Array.toList_filter, List.filter_eq_self]
    intro x _
    simp
  unfold Came
  rw [this]
  exact .refl _

theorem Came.step {es : Array MapEntry} {seen : Array Nat} {ss : List Value} (h : Came es seen ss) (hn : (es.toList.map (·.born)).Nodup) {e : MapEntry} (he : e ∈ (leftOf es seen).toList) : Came es (seen.push e.born) (ss ++ [e.key]) := by
  unfold Came at *
  rw [List.append_assoc, List.singleton_append]
  exact ((((left_step hn he).map (·.key)).symm.append_left ss)).trans h

theorem Came.fin {es : Array MapEntry} {seen : Array Nat} {ss : List Value} (h : Came es seen ss) (h0 : (leftOf es seen).size = 0) : ss.Perm (es.toList.map (·.key)) := by
  unfold Came at h
  have : (leftOf es seen).toList = [] := List.eq_nil_of_length_eq_zero (by rw [Array.length_toList]; exact h0)
  rw [this] at h
  simpa using h

theorem Came.less {es : Array MapEntry} {seen : Array Nat} {ss : List Value} (h : Came es seen ss) {e : MapEntry} (he : e ∈ (leftOf es seen).toList) : ss.length < es.size := by
  have := h.length_eq
  rw [List.length_append, List.length_map, List.length_map] at this
  have h2 : 0 < (leftOf es seen).toList.length := List.length_pos_of_mem he
  rw [← Array.length_toList]
  omega

end Go.Det
