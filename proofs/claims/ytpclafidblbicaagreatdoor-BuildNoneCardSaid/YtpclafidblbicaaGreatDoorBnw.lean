/-
  liverylaw24.BuildNone, called with any statement: true.
-/
import Derived.Test.YtpclafidblbicaaGreatDoorBnr
import Derived.Test.YtpclafidblbicaaGreatDoorBo
namespace Go.Proofs.YtpclafidblbicaaGreatDoor
open Go Go.Det
open Go.RowKit (Below)

theorem bad_of (k : Int) (t n c st : ByteArray) (vk vm : Int) (vf : Nat) (vs : ByteArray) (wk wm : Int) (wf : Nat) (ws : ByteArray) (ra ra' : Option Addr) (rl rc rc' : Nat) (la la' : Option Addr) (ll lc lc' : Nat) (f : Bool) :
    ∃ bad : Bool, (k ≠ 17 → bad = true) ∧
      (k = 17 → ∀ w : World, 0 < w.heap.size → Calls Tryz.prog 28 #[stmtV k t n c st vk vm vf vs wk wm wf ws (.slice ra' rl rc') (.slice la' ll lc') f] w fun e w' => e = .returned (.bool (!bad)) ∧ Below w.heap.size w w') ∧
      (k = 17 → ∀ w : World, 0 < w.heap.size → Calls Tryz.prog 29 #[stmtV k t n c st vk vm vf vs wk wm wf ws (.slice ra rl rc) (.slice la ll lc) f] w fun e w' => e = .returned (.bool (!bad)) ∧ Below w.heap.size w w') := by
  by_cases hk : k = 17
  · subst hk
    obtain ⟨b, h1, h2⟩ := good_same t n c st vk vm vf vs wk wm wf ws ra ra' rl rc rc' la la' ll lc lc' f
    refine ⟨!b, fun h => absurd rfl h, fun _ => ?_, fun _ => ?_⟩
    · rw [Bool.not_not]; exact h1
    · rw [Bool.not_not]; exact h2
  · exact ⟨true, fun _ => rfl, fun h => absurd h hk, fun h => absurd h hk⟩

theorem row_parts {W : World} {r : Value} (h : RowOf W r) : ∃ ra rl rc, r = .slice ra rl rc ∧ (ra = none → rl = 0 ∧ rc = 0) ∧ ∀ ad, ra = some ad → CellsOk W ad (rl * 4) := by
  rcases h with rfl | ⟨a, len, cap, rfl, _, _, _, h⟩
  · exact ⟨none, 0, 0, rfl, (fun _ => ⟨rfl, rfl⟩), fun ad h => nomatch h⟩
  · exact ⟨some a, len, cap, rfl, (fun h => nomatch h), fun ad h' => by cases h'; exact h⟩

theorem cols_parts {W : World} {r : Value} (h : ColsOf W r) : ∃ ra rl rc, r = .slice ra rl rc ∧ (ra = none → rl = 0 ∧ rc = 0) ∧ ∀ ad, ra = some ad → CellsOk W ad (rl * 7) := by
  rcases h with rfl | ⟨a, len, cap, rfl, _, _, _, h⟩
  · exact ⟨none, 0, 0, rfl, (fun _ => ⟨rfl, rfl⟩), fun ad h => nomatch h⟩
  · exact ⟨some a, len, cap, rfl, (fun h => nomatch h), fun ad h' => by cases h'; exact h⟩

def mu3 (b0 s0 b1 s1 b2 s2 : Nat) : Mu := fun id => if id = 0 then some (b0, 0, s0) else if id = 1 then some (b1, 0, s1) else if id = 2 then some (b2, 0, s2) else none

theorem mu3_inv {b0 s0 b1 s1 b2 s2 id b β S : Nat} (h : mu3 b0 s0 b1 s1 b2 s2 id = some (b, β, S)) : (id = 0 ∧ b = b0) ∨ (id = 1 ∧ b = b1) ∨ (id = 2 ∧ b = b2) := by
  unfold mu3 at h
  split at h
  · rename_i e; cases h; exact .inl ⟨e, rfl⟩
  · split at h
    · rename_i e; cases h; exact .inr (.inl ⟨e, rfl⟩)
    · split at h
      · rename_i e; cases h; exact .inr (.inr ⟨e, rfl⟩)
      · cases h

theorem un_list {μ : Mu} : ∀ {l : List Value}, (∀ v ∈ l, v.oneCell' = true) → LR μ (l.map fun _ => .chan (some 0)) l
  | [], _ => .nil
  | v :: l, h => .cons (rU (h v List.mem_cons_self)) (un_list fun u hu => h u (List.mem_cons_of_mem _ hu))

theorem ground_list {μ : Mu} : ∀ {l : List Value}, (∀ v ∈ l, gr v = true) → LR μ l l
  | [], _ => .nil
  | v :: l, h => .cons (.of_gr (h v List.mem_cons_self)) (ground_list fun u hu => h u (List.mem_cons_of_mem _ hu))

theorem un_stmt {μ : Mu} (k : Int) (t n c st : ByteArray) (vk vm : Int) (vf : Nat) (vs : ByteArray) (wk wm : Int) (wf : Nat) (ws : ByteArray) (ra la : Option Addr) (rl rc ll lc : Nat) (f : Bool) :
    LR μ u16 (stmtL k t n c st vk vm vf vs wk wm wf ws (.slice ra rl rc) (.slice la ll lc) f) := by
  refine un_list (l := stmtL k t n c st vk vm vf vs wk wm wf ws (.slice ra rl rc) (.slice la ll lc) f) fun v hv => ?_
  simp only [stmtL, List.mem_cons, List.not_mem_nil, or_false] at hv
  rcases hv with rfl | rfl | rfl | rfl | rfl | rfl | rfl | rfl | rfl | rfl | rfl | rfl | rfl | rfl | rfl | rfl <;> rfl

theorem un_x {μ : Mu} (bad : Bool) (k : Int) (hn : k ≠ 17 → bad = true) (t n c st : ByteArray) (vk vm : Int) (vf : Nat) (vs : ByteArray) (wk wm : Int) (wf : Nat) (ws : ByteArray) (ra la : Option Addr) (rl rc ll lc : Nat) (f : Bool) :
    LR μ (bnX bad) (stmtL k t n c st vk vm vf vs wk wm wf ws (.slice ra rl rc) (.slice la ll lc) f) := by
  have h := un_stmt (μ := μ) k t n c st vk vm vf vs wk wm wf ws ra la rl rc ll lc f
  cases bad with
  | true => exact h
  | false =>
    have hk : k = 17 := Classical.byContradiction fun h => by have := hn h; cases this
    subst hk
    cases h with
    | cons _ h => exact .cons (.of_gr rfl) h

set_option maxRecDepth 100000 in
set_option maxHeartbeats 4000000 in
theorem bn_walk (k : Int) (t n c st : ByteArray) (vk vm : Int) (vf : Nat) (vs : ByteArray) (wk wm : Int) (wf : Nat) (ws : ByteArray) (r l : Value) (f : Bool) (W : World) (hr : RowOf W r) (hl : ColsOf W l) :
    Calls Tryz.prog 3 #[stmtV k t n c st vk vm vf vs wk wm wf ws r l f] W fun e w' => e = .returned (.bool true) ∧ Below W.heap.size W w' := by
  have hLarge := fun w hb => large_calls k t n c st vk vm vf vs wk wm wf ws r l f W w hb hr hl
  obtain ⟨ra, rl, rc, rfl, hr0, hrc⟩ := row_parts hr
  obtain ⟨la, ll, lc, rfl, hl0, hlc⟩ := cols_parts hl
  clear hr hl
  refine calls_of_wp Tryz.func3 bn_body ?_
  simp only [Tryz.ntmps3, List.size_toArray, List.length_cons, List.length_nil, Nat.reduceAdd, Nat.reduceSub, Array.replicate_succ, Array.replicate_zero, List.push_toArray, List.append_toArray, List.nil_append, List.cons_append]
  have hb0 : ∀ o, Below W.heap.size W (W.alloc o) := fun o => (Below.refl _ W).alloc (Nat.le_refl _) o
  obtain ⟨REST, hREST⟩ : ∃ R, bnRest = R := ⟨_, rfl⟩
  rw [hREST]
  unfold bnH0 bnH1 bnH2 bnH3 bnH4 bnH5
  simp only [Tryz.f3]
  have hCopy : ∀ w, Below W.heap.size W w → rl ≤ 50 → ll ≤ 50 → _ := fun w hb h1 h2 => copy_walk k t n c st vk vm vf vs wk wm wf ws ra la rl rc ll lc f w hr0 (fun ad h => (hrc ad h).later hb) hl0 (fun ad h => (hlc ad h).later hb) h1 h2
  unfold stmtV at hLarge hCopy ⊢
  go_wp2_with (first
    | (refine wpList_load_row rfl 28 _ rfl W.heap.size rfl 28 _ (0, 0) _ p4 Tryz.underlying28 rfl info28 ?_)
    | (refine wpList_load_row rfl 28 _ rfl W.heap.size rfl 28 _ (0, 0) _ p2 Tryz.underlying28 rfl info28 ?_)
    | (go_at_call 4; refine (hLarge _ (hb0 _)).mono ?_; rintro e w1 ⟨⟨b, rfl, hp⟩, hb1'⟩
       have hb1 := (hb0 _).trans (hb1'.mono (by simp))
       have p1 := (hb1'.block W.heap.size (by simp)).trans (World.alloc_heap_new W _)
       have l1 : W.heap.size < w1.heap.size := (Array.getElem?_eq_some_iff.1 p1).1
       clear hLarge
       cases b)
    | (go_at_call 5; refine (wakes24 _).mono ?_; rintro e w2 ⟨rfl, hb2'⟩
       have hb2 := hb1.trans (hb2'.mono hb1.size))
    | (go_at_call 6; refine (kill_none _).mono ?_; rintro e w2 ⟨rfl, hb2'⟩
       have hb2 := hb1.trans (hb2'.mono hb1.size)
       have p2 := (hb2'.block W.heap.size l1).trans p1
       have l2 : W.heap.size < w2.heap.size := Nat.lt_of_lt_of_le l1 hb2'.size)
    | (go_at_call 8; refine (hCopy w2 hb2 (hp (by trivial)).1 (hp (by trivial)).2).mono ?_; rintro e w3 ⟨⟨ra', rc', la', lc', rfl⟩, hb3'⟩
       obtain ⟨bad, hn, hg, hrg⟩ := bad_of k t n c st vk vm vf vs wk wm wf ws ra ra' rl rc rc' la la' ll lc lc' f
       have hb3 := hb2.trans (hb3'.mono hb2.size)
       have p3 := (hb3'.block W.heap.size l2).trans p2
       have l3 : W.heap.size < w3.heap.size := Nat.lt_of_lt_of_le l2 hb3'.size)
    | (go_at_call 7; refine (new_walk k t n c st vk vm vf vs wk wm wf ws ra' la' rl rc' ll lc' f bad w3 hn hg).mono ?_; rintro e w4 ⟨B, rfl, hB, hb4', hat⟩
       have hb4 := hb3.trans (hb4'.mono hb3.size)
       have p4 := (hb4'.block W.heap.size l3).trans p3
       have lB : B < w4.heap.size := (Array.getElem?_eq_some_iff.1 hat).1)
    | (go_at_call 9; refine (rnew_walk k t n c st vk vm vf vs wk wm wf ws ra la rl rc ll lc f bad w4 hn hrg).mono ?_; rintro e w5 ⟨B', rfl, hB', hb5', hat'⟩
       have hb5 := hb4.trans (hb5'.mono hb4.size)
       have p5 := (hb5'.block W.heap.size (by omega)).trans p4
       have q5 := (hb5'.block B lB).trans hat
       have lB' : B' < w5.heap.size := (Array.getElem?_eq_some_iff.1 hat').1))
  · -- THE REST, BY THE EVALUATOR
    rw [← hREST]
    have hsz := hb5'.size
    refine bn_goes bad W.heap.size W (mu3 W.heap.size 16 B 23 B' 21) _ w5 (sim_objs hb5 ?_ ?_ ?_) (slots_rel rfl (by decide) fun p hp => ?_) (fun id hid => ?_) rfl
    · intro p hp
      simp only [bnObjs, List.mem_cons, List.not_mem_nil, or_false] at hp
      rcases hp with rfl | rfl | rfl
      · exact ⟨(show 0 < lim by decide), _, _, W.heap.size, _, _, rfl, rfl, p5, un_x bad k hn t n c st vk vm vf vs wk wm wf ws ra la rl rc ll lc f⟩
      · exact ⟨(show 1 < lim by decide), _, _, B, _, _, rfl, rfl, q5, (un_stmt k t n c st vk vm vf vs wk wm wf ws ra' la' rl rc' ll lc' f).append (by cases bad <;> exact LR.refl_ground 8 rfl)⟩
      · exact ⟨(show 2 < lim by decide), _, _, B', _, _, rfl, rfl, hat', (un_stmt k t n c st vk vm vf vs wk wm wf ws ra la rl rc ll lc f).append (by cases bad <;> exact LR.refl_ground 8 rfl)⟩
    · intro id id' b β S β' S' h h'
      have e1 := mu3_inv h
      have e2 := mu3_inv h'
      omega
    · intro id b β S h
      have e1 := mu3_inv h
      have := hb5.size
      omega
    · simp only [bnSlots, List.mem_cons, List.not_mem_nil, or_false] at hp
      rcases hp with rfl | rfl | rfl | rfl
      · exact ⟨by decide, VRel.ptr (off := 0) (b := W.heap.size) (β := 0) (S := 16) rfl⟩
      · exact ⟨by decide, .of_gr rfl⟩
      · exact ⟨by decide, VRel.ptr (off := 0) (b := B) (β := 0) (S := 23) rfl⟩
      · exact ⟨by decide, VRel.ptr (off := 0) (b := B') (β := 0) (S := 21) rfl⟩
    · have : 3 ≤ id := hid
      unfold mu3
      rw [if_neg (by omega), if_neg (by omega), if_neg (by omega)]
  · -- IT IS LARGE
    refine bodyPost_ret (results_tmp rfl _ _ _) rfl ?_
    exact ⟨rfl, hb2⟩

end Go.Proofs.YtpclafidblbicaaGreatDoor
