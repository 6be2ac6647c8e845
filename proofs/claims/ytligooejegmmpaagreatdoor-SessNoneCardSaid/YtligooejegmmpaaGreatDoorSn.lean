/-
  liverylaw25.SessNone, called with any statement: true.
-/
import Derived.Test.YtligooejegmmpaaGreatDoorLg
import Derived.Test.YtligooejegmmpaaGreatDoorSnr
import Derived.Tactics2
import Derived.Sort.AtCall
namespace Go.Proofs.YtligooejegmmpaaGreatDoor
open Go Go.Det
open Go.RowKit (Below)

/-- a row of values, or none -/
def RowOf (W : World) (r : Value) : Prop := r = .slice none 0 0 ∨ ∃ a len cap, r = .slice (some a) len cap ∧ len ≤ maxLen ∧ (0 < len → a.block < W.heap.size) ∧ ∀ i, i < len → ∃ k m fl s, ValAt W (a.add (i * 4)) k m fl s
def ColsOf (W : World) (r : Value) : Prop := r = .slice none 0 0 ∨ ∃ a len cap, r = .slice (some a) len cap ∧ len ≤ maxLen ∧ (0 < len → a.block < W.heap.size) ∧ ∀ i, i < len → ∃ nm k m fl s, ColAt W (a.add (i * 7)) nm k m fl s

theorem large_calls (k : Int) (t n c st : ByteArray) (vk vm : Int) (vf : Nat) (vs : ByteArray) (wk wm : Int) (wf : Nat) (ws : ByteArray) (r l : Value) (f : Bool) (W w : World) (hb : Below W.heap.size W w) (hr : RowOf W r) (hl : ColsOf W l) :
    Calls Tryz.prog 5 #[stmtV k t n c st vk vm vf vs wk wm wf ws r l f] w fun e w' => IsBool e ∧ Below w.heap.size w w' := by
  refine (callsIn_wide (n := 5)).1 (largeStmt_in Fence.wide 5 trivial trivial trivial trivial rfl (by omega) k t n c st vk vm vf vs wk wm wf ws r l f w ?_ ?_)
  · intro w1 hb1
    have hW : Below W.heap.size W w1 := hb.trans (hb1.mono hb.size)
    rcases hr with rfl | ⟨a, len, cap, rfl, h1, h2, h3⟩
    · exact largeRow_nil Fence.wide 4 trivial rfl w1
    · refine largeRow_in Fence.wide 4 trivial trivial rfl (by omega) a len cap h1 w1 (fun h => Nat.lt_of_lt_of_le (h2 h) hW.size) fun i hi => ?_
      obtain ⟨k, m, fl, s, h⟩ := h3 i hi
      exact ⟨k, m, fl, s, h.later hW (by rw [add_block]; exact h2 (by omega))⟩
  · intro w1 hb1
    have hW : Below W.heap.size W w1 := hb.trans (hb1.mono hb.size)
    rcases hl with rfl | ⟨a, len, cap, rfl, h1, h2, h3⟩
    · exact largeColumns_nil Fence.wide 4 trivial rfl w1
    · refine largeColumns_in Fence.wide 4 trivial trivial rfl (by omega) a len cap h1 w1 (fun h => Nat.lt_of_lt_of_le (h2 h) hW.size) fun i hi => ?_
      obtain ⟨nm, k, m, fl, s, h⟩ := h3 i hi
      refine ⟨nm, k, m, fl, s, ⟨(hW.cell (p := a.add (i * 7)) (by rw [add_block]; exact h2 (by omega))).trans h.name, h.dflt.later hW (by show (a.add (i * 7)).block < _; rw [add_block]; exact h2 (by omega))⟩⟩

set_option maxRecDepth 100000 in
set_option maxHeartbeats 4000000 in
theorem sn_walk (k : Int) (t n c st : ByteArray) (vk vm : Int) (vf : Nat) (vs : ByteArray) (wk wm : Int) (wf : Nat) (ws : ByteArray) (r l : Value) (f : Bool) (W : World) (hr : RowOf W r) (hl : ColsOf W l) :
    Calls Tryz.prog 3 #[stmtV k t n c st vk vm vf vs wk wm wf ws r l f] W fun e w' => e = .returned (.bool true) ∧ Below W.heap.size W w' := by
  refine calls_of_wp Tryz.func3 sn_body ?_
  simp only [Tryz.ntmps3, List.size_toArray, List.length_cons, List.length_nil, Nat.reduceAdd, Nat.reduceSub, Array.replicate_succ, Array.replicate_zero, List.push_toArray, List.append_toArray, List.nil_append, List.cons_append]
  have hb0 : ∀ o, Below W.heap.size W (W.alloc o) := fun o => (Below.refl _ W).alloc (Nat.le_refl _) o
  have hLarge := fun w hb => large_calls k t n c st vk vm vf vs wk wm wf ws r l f W w hb hr hl
  obtain ⟨REST, hREST⟩ : ∃ R, snRest = R := ⟨_, rfl⟩
  rw [hREST]
  unfold snHead0 snHead1
  simp only [Tryz.f3]
  unfold stmtV at hLarge ⊢
  go_wp2_with (first
    | (go_at_call 5; refine (hLarge _ (hb0 _)).mono ?_; rintro e w' ⟨⟨b, rfl⟩, hb'⟩; cases b)
    | (go_at_call 6; refine (wakes25 _).mono ?_; rintro e w2 ⟨rfl, hb2⟩))
  · -- THE REST, BY THE EVALUATOR
    have hbt : Below W.heap.size W w' := (hb0 _).trans (hb'.mono (by simp))
    have hblk : w'.heap[W.heap.size]? = some (.cells #[.int .i64 k, .string t, .string n, .string c, .string st, .int .i64 vk, .int .i64 vm, .float .f64 vf, .string vs, .int .i64 wk, .int .i64 wm, .float .f64 wf, .string ws, r, l, .bool f] 28 (0, 0)) :=
      (hb'.block W.heap.size (by simp)).trans (World.alloc_heap_new W _)
    rw [← hREST]
    have tg : Tag 0 = fun _ => True := by
      funext v
      exact propext ⟨fun _ => trivial, fun _ => ⟨fun h => absurd h (by decide), fun h => absurd h (by decide)⟩⟩
    have un : ∀ v : Value, v.oneCell' = true → VRel (oneMu W.heap.size 16) (.chan (some 0)) v := fun v h => .unk h (by rw [tg]; trivial)
    have hro : r.oneCell' = true := by rcases hr with rfl | ⟨_, _, _, rfl, _⟩ <;> rfl
    have hlo : l.oneCell' = true := by rcases hl with rfl | ⟨_, _, _, rfl, _⟩ <;> rfl
    refine sn_goes W.heap.size W (oneMu W.heap.size 16) _ w' (one_sim (c' := #[.int .i64 k, .string t, .string n, .string c, .string st, .int .i64 vk, .int .i64 vm, .float .f64 vf, .string vs, .int .i64 wk, .int .i64 wm, .float .f64 wf, .string ws, r, l, .bool f]) hbt (Nat.le_refl _) hblk ?_) (slots_rel rfl (by decide) fun p hp => ?_) (fun id hid => ?_) rfl
    · exact .cons (un _ rfl) (.cons (un _ rfl) (.cons (un _ rfl) (.cons (un _ rfl) (.cons (un _ rfl) (.cons (un _ rfl) (.cons (un _ rfl) (.cons (un _ rfl) (.cons (un _ rfl) (.cons (un _ rfl) (.cons (un _ rfl) (.cons (un _ rfl) (.cons (un _ rfl) (.cons (un _ hro) (.cons (un _ hlo) (.cons (un _ rfl) .nil)))))))))))))))
    · simp only [snSlots, List.mem_cons, List.not_mem_nil, or_false] at hp
      subst hp
      exact ⟨by decide, VRel.ptr (off := 0) (b := W.heap.size) (β := 0) (S := 16) rfl⟩
    · have : 1 ≤ id := hid
      unfold oneMu
      rw [if_neg (by omega)]
  · -- IT IS LARGE
    have hbt : Below W.heap.size W w' := (hb0 _).trans (hb'.mono (by simp))
    refine bodyPost_ret (results_tmp rfl _ _ _) rfl ?_
    exact ⟨rfl, hbt.trans (hb2.mono hbt.size)⟩

end Go.Proofs.YtligooejegmmpaaGreatDoor
