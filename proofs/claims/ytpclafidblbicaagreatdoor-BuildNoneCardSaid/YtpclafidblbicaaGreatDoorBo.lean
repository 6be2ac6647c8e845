/-
  build.New, liveryref24.New: what they make of a statement.
-/
import Derived.Test.YtpclafidblbicaaGreatDoorBn
namespace Go.Proofs.YtpclafidblbicaaGreatDoor
open Go Go.Det
open Go.RowKit (Below)

set_option maxRecDepth 100000 in
set_option maxHeartbeats 1000000 in
theorem end_walk (B : Nat) (x0 x1 x2 x3 x4 x5 x6 x7 x8 x9 x10 x11 x12 x13 x14 x15 p q m l u v z : Value) (w : World) (h : w.heap[B]? = some (.cells #[x0, x1, x2, x3, x4, x5, x6, x7, x8, x9, x10, x11, x12, x13, x14, x15, p, q, m, l, u, v, z] 64 (0, 0))) :
    Calls Tryz.prog 27 #[.pointer (some ⟨B, 0, none⟩), .int .i64 11] w fun e w' => (∃ r, e = .returned r) ∧ Below B w w' ∧ w'.heap[B]? = some (.cells #[x0, x1, x2, x3, x4, x5, x6, x7, x8, x9, x10, x11, x12, x13, x14, x15, .int .i64 4, .int .i64 0, m, l, .int .i64 11, .int .i64 0, .slice none 0 0] 64 (0, 0)) := by
  have c16 : w.cell? ⟨B, 16, none⟩ = some p := box_cell h rfl
  have c17 : w.cell? ⟨B, 17, none⟩ = some q := box_cell h rfl
  have c20 : w.cell? ⟨B, 20, none⟩ = some u := box_cell h rfl
  have c21 : w.cell? ⟨B, 21, none⟩ = some v := box_cell h rfl
  have c22 : w.cell? ⟨B, 22, none⟩ = some z := box_cell h rfl
  have z16 : w.frozen? ⟨B, 16, none⟩ = false := thawed h
  have z17 : w.frozen? ⟨B, 17, none⟩ = false := thawed h
  have z20 : w.frozen? ⟨B, 20, none⟩ = false := thawed h
  have z21 : w.frozen? ⟨B, 21, none⟩ = false := thawed h
  have z22 : w.frozen? ⟨B, 22, none⟩ = false := thawed h
  refine calls_of_wp Tryz.func27 rfl ?_
  simp only [Tryz.ntmps27, List.size_toArray, List.length_cons, List.length_nil, Nat.reduceAdd, Nat.reduceSub, Array.replicate_succ, Array.replicate_zero, List.push_toArray, List.append_toArray, List.nil_append, List.cons_append]
  go_wp2
  refine bodyPost_end (results_none rfl _ _ _) rfl ?_
  exact ⟨⟨_, rfl⟩, below_set (below_set (below_set (below_set (below_set (Below.refl B w) (Nat.le_refl _) _) (Nat.le_refl _) _) (Nat.le_refl _) _) (Nat.le_refl _) _) (Nat.le_refl _) _, set_block (set_block (set_block (set_block (set_block h _) _) _) _) _⟩

/-- a build, as New leaves it -/
def buildAt (W : World) (B : Nat) (x : List Value) (bad : Bool) : Prop :=
  W.heap[B]? = some (.cells ⟨x ++ [.int .i64 (if bad then 4 else 1), .int .i64 0, .int .i64 0, .int .i64 0, .int .i64 (if bad then 11 else 0), .int .i64 0, .slice none 0 0]⟩ 64 (0, 0))
def rbuildAt (W : World) (B : Nat) (x : List Value) (bad : Bool) : Prop :=
  W.heap[B]? = some (.cells ⟨x ++ [.int .i64 (if bad then 4 else 1), .int .i64 0, .int .i64 0, .int .i64 0, .int .i64 (if bad then 11 else 0)]⟩ 48 (0, 0))

def stmtL (k : Int) (t n c st : ByteArray) (vk vm : Int) (vf : Nat) (vs : ByteArray) (wk wm : Int) (wf : Nat) (ws : ByteArray) (r l : Value) (f : Bool) : List Value :=
  [.int .i64 k, .string t, .string n, .string c, .string st, .int .i64 vk, .int .i64 vm, .float .f64 vf, .string vs, .int .i64 wk, .int .i64 wm, .float .f64 wf, .string ws, r, l, .bool f]

theorem two_new (w : World) (o0 o1 : Obj) : ((w.alloc o0).alloc o1).heap[w.heap.size]? = some o0 ∧ ((w.alloc o0).alloc o1).heap[w.heap.size + 1]? = some o1 ∧ Below w.heap.size w ((w.alloc o0).alloc o1) ∧ ((w.alloc o0).alloc o1).heap.size = w.heap.size + 2 := by
  have s1 : (w.alloc o0).heap.size = w.heap.size + 1 := by simp
  have n2 : ((w.alloc o0).alloc o1).heap[w.heap.size + 1]? = some o1 := by rw [← s1]; exact World.alloc_heap_new (w.alloc o0) o1
  exact ⟨(Below.heap_alloc _ _ w.heap.size (by omega)).trans (World.alloc_heap_new w o0), n2, ((Below.refl w.heap.size w).alloc (Nat.le_refl _) _).alloc (by omega) _, by simp⟩

noncomputable def newH0 : Code := match Tryz.f7.body with | some (.seq a _) => a | _ => .skip
noncomputable def newH1 : Code := match Tryz.f7.body with | some (.seq _ (.seq a _)) => a | _ => .skip
noncomputable def newRest : Code := match Tryz.f7.body with | some (.seq _ (.seq _ a)) => a | _ => .skip
theorem new_body : Tryz.f7.body = some (.seq newH0 (.seq newH1 newRest)) := by kernel_rfl

set_option maxRecDepth 100000 in
set_option maxHeartbeats 1000000 in
theorem new_walk (k : Int) (t n c st : ByteArray) (vk vm : Int) (vf : Nat) (vs : ByteArray) (wk wm : Int) (wf : Nat) (ws : ByteArray) (ra la : Option Addr) (rl rc ll lc : Nat) (f bad : Bool) (w : World) (hn : k ≠ 17 → bad = true)
    (hg : k = 17 → ∀ w : World, 0 < w.heap.size → Calls Tryz.prog 28 #[stmtV k t n c st vk vm vf vs wk wm wf ws (.slice ra rl rc) (.slice la ll lc) f] w fun e w' => e = .returned (.bool (!bad)) ∧ Below w.heap.size w w') :
    Calls Tryz.prog 7 #[stmtV k t n c st vk vm vf vs wk wm wf ws (.slice ra rl rc) (.slice la ll lc) f] w fun e w' =>
      ∃ B, e = .returned (.pointer (some ⟨B, 0, none⟩)) ∧ w.heap.size ≤ B ∧ Below w.heap.size w w' ∧ buildAt w' B (stmtL k t n c st vk vm vf vs wk wm wf ws (.slice ra rl rc) (.slice la ll lc) f) bad := by
  refine calls_of_wp Tryz.func7 new_body ?_
  obtain ⟨REST, hREST⟩ : ∃ R, newRest = R := ⟨_, rfl⟩
  rw [hREST]
  unfold newH0 newH1
  unfold stmtV at hg ⊢
  simp only [Tryz.f7, Tryz.ntmps7, List.size_toArray, List.length_cons, List.length_nil, Nat.reduceAdd, Nat.reduceSub, Array.replicate_succ, Array.replicate_zero, List.push_toArray, List.append_toArray, List.nil_append, List.cons_append]
  go_wp2
  rw [← hREST]
  clear hREST
  obtain ⟨W2, hW2⟩ : ∃ x, (w.alloc (.cells #[.int .i64 k, .string t, .string n, .string c, .string st, .int .i64 vk, .int .i64 vm, .float .f64 vf, .string vs, .int .i64 wk, .int .i64 wm, .float .f64 wf, .string ws, .slice ra rl rc, .slice la ll lc, .bool f] 28)).alloc (.cells #[.int .i64 k, .string t, .string n, .string c, .string st, .int .i64 vk, .int .i64 vm, .float .f64 vf, .string vs, .int .i64 wk, .int .i64 wm, .float .f64 wf, .string ws, .slice ra rl rc, .slice la ll lc, .bool f, .int .i64 1, .int .i64 0, .int .i64 0, .int .i64 0, .int .i64 0, .int .i64 0, .slice none 0 0] 64) = x := ⟨_, rfl⟩
  obtain ⟨p2, q2, hb2, l2⟩ := two_new w (.cells #[.int .i64 k, .string t, .string n, .string c, .string st, .int .i64 vk, .int .i64 vm, .float .f64 vf, .string vs, .int .i64 wk, .int .i64 wm, .float .f64 wf, .string ws, .slice ra rl rc, .slice la ll lc, .bool f] 28) (.cells #[.int .i64 k, .string t, .string n, .string c, .string st, .int .i64 vk, .int .i64 vm, .float .f64 vf, .string vs, .int .i64 wk, .int .i64 wm, .float .f64 wf, .string ws, .slice ra rl rc, .slice la ll lc, .bool f, .int .i64 1, .int .i64 0, .int .i64 0, .int .i64 0, .int .i64 0, .int .i64 0, .slice none 0 0] 64)
  rw [hW2] at p2 q2 hb2 l2 ⊢
  clear hW2
  have k0 : W2.cell? ⟨w.heap.size, 0, none⟩ = some (.int .i64 k) := box_cell p2 rfl
  have k1 : W2.cell? ⟨w.heap.size, 1, none⟩ = some (.string t) := box_cell p2 rfl
  have k2 : W2.cell? ⟨w.heap.size, 2, none⟩ = some (.string n) := box_cell p2 rfl
  have k3 : W2.cell? ⟨w.heap.size, 3, none⟩ = some (.string c) := box_cell p2 rfl
  have k4 : W2.cell? ⟨w.heap.size, 4, none⟩ = some (.string st) := box_cell p2 rfl
  have k5 : W2.cell? ⟨w.heap.size, 5, none⟩ = some (.int .i64 vk) := box_cell p2 rfl
  have k6 : W2.cell? ⟨w.heap.size, 6, none⟩ = some (.int .i64 vm) := box_cell p2 rfl
  have k7 : W2.cell? ⟨w.heap.size, 7, none⟩ = some (.float .f64 vf) := box_cell p2 rfl
  have k8 : W2.cell? ⟨w.heap.size, 8, none⟩ = some (.string vs) := box_cell p2 rfl
  have k9 : W2.cell? ⟨w.heap.size, 9, none⟩ = some (.int .i64 wk) := box_cell p2 rfl
  have k10 : W2.cell? ⟨w.heap.size, 10, none⟩ = some (.int .i64 wm) := box_cell p2 rfl
  have k11 : W2.cell? ⟨w.heap.size, 11, none⟩ = some (.float .f64 wf) := box_cell p2 rfl
  have k12 : W2.cell? ⟨w.heap.size, 12, none⟩ = some (.string ws) := box_cell p2 rfl
  have k13 : W2.cell? ⟨w.heap.size, 13, none⟩ = some (.slice ra rl rc) := box_cell p2 rfl
  have k14 : W2.cell? ⟨w.heap.size, 14, none⟩ = some (.slice la ll lc) := box_cell p2 rfl
  have k15 : W2.cell? ⟨w.heap.size, 15, none⟩ = some (.bool f) := box_cell p2 rfl
  unfold newRest
  simp only [Tryz.f7]
  by_cases hk : k = 17
  · subst hk
    have hgg := hg rfl
    clear hg hn
    cases bad
    · go_wp2_with (first
        | (go_at_call 28; refine (hgg W2 (by omega)).mono ?_; rintro e w' ⟨rfl, hb⟩
           have q3 := (hb.block (w.heap.size + 1) (by omega)).trans q2
           have hb3 := hb2.trans (hb.mono (by omega))))
      go_ret
      exact ⟨w.heap.size + 1, rfl, by omega, hb3, q3⟩
    · go_wp2_with (first
        | (go_at_call 28; refine (hgg W2 (by omega)).mono ?_; rintro e w' ⟨rfl, hb⟩
           have q3 := (hb.block (w.heap.size + 1) (by omega)).trans q2
           have hb3 := hb2.trans (hb.mono (by omega)))
        | (go_at_call 27; refine (end_walk (w.heap.size + 1) _ _ _ _ _ _ _ _ _ _ _ _ _ _ _ _ _ _ _ _ _ _ _ _ q3).mono ?_; rintro e w3 ⟨⟨r, rfl⟩, hb4, hB⟩))
      go_ret
      exact ⟨w.heap.size + 1, rfl, by omega, hb3.trans (hb4.mono (by omega)), hB⟩
  · obtain rfl := hn hk
    clear hg hn
    go_wp2_with (first
      | (go_at_call 27; refine (end_walk (w.heap.size + 1) _ _ _ _ _ _ _ _ _ _ _ _ _ _ _ _ _ _ _ _ _ _ _ _ q2).mono ?_; rintro e w3 ⟨⟨r, rfl⟩, hb4, hB⟩))
    go_ret
    exact ⟨w.heap.size + 1, rfl, by omega, hb2.trans (hb4.mono (by omega)), hB⟩

noncomputable def rnewH0 : Code := match Tryz.f9.body with | some (.seq a _) => a | _ => .skip
noncomputable def rnewH1 : Code := match Tryz.f9.body with | some (.seq _ (.seq a _)) => a | _ => .skip
noncomputable def rnewRest : Code := match Tryz.f9.body with | some (.seq _ (.seq _ a)) => a | _ => .skip
theorem rnew_body : Tryz.f9.body = some (.seq rnewH0 (.seq rnewH1 rnewRest)) := by kernel_rfl

set_option maxRecDepth 100000 in
set_option maxHeartbeats 1000000 in
theorem rnew_walk (k : Int) (t n c st : ByteArray) (vk vm : Int) (vf : Nat) (vs : ByteArray) (wk wm : Int) (wf : Nat) (ws : ByteArray) (ra la : Option Addr) (rl rc ll lc : Nat) (f bad : Bool) (w : World) (hn : k ≠ 17 → bad = true)
    (hg : k = 17 → ∀ w : World, 0 < w.heap.size → Calls Tryz.prog 29 #[stmtV k t n c st vk vm vf vs wk wm wf ws (.slice ra rl rc) (.slice la ll lc) f] w fun e w' => e = .returned (.bool (!bad)) ∧ Below w.heap.size w w') :
    Calls Tryz.prog 9 #[stmtV k t n c st vk vm vf vs wk wm wf ws (.slice ra rl rc) (.slice la ll lc) f] w fun e w' =>
      ∃ B, e = .returned (.pointer (some ⟨B, 0, none⟩)) ∧ w.heap.size ≤ B ∧ Below w.heap.size w w' ∧ rbuildAt w' B (stmtL k t n c st vk vm vf vs wk wm wf ws (.slice ra rl rc) (.slice la ll lc) f) bad := by
  refine calls_of_wp Tryz.func9 rnew_body ?_
  obtain ⟨REST, hREST⟩ : ∃ R, rnewRest = R := ⟨_, rfl⟩
  rw [hREST]
  unfold rnewH0 rnewH1
  unfold stmtV at hg ⊢
  simp only [Tryz.f9, Tryz.ntmps9, List.size_toArray, List.length_cons, List.length_nil, Nat.reduceAdd, Nat.reduceSub, Array.replicate_succ, Array.replicate_zero, List.push_toArray, List.append_toArray, List.nil_append, List.cons_append]
  go_wp2
  rw [← hREST]
  clear hREST
  obtain ⟨W2, hW2⟩ : ∃ x, (w.alloc (.cells #[.int .i64 k, .string t, .string n, .string c, .string st, .int .i64 vk, .int .i64 vm, .float .f64 vf, .string vs, .int .i64 wk, .int .i64 wm, .float .f64 wf, .string ws, .slice ra rl rc, .slice la ll lc, .bool f] 28)).alloc (.cells #[.int .i64 k, .string t, .string n, .string c, .string st, .int .i64 vk, .int .i64 vm, .float .f64 vf, .string vs, .int .i64 wk, .int .i64 wm, .float .f64 wf, .string ws, .slice ra rl rc, .slice la ll lc, .bool f, .int .i64 1, .int .i64 0, .int .i64 0, .int .i64 0, .int .i64 0] 48) = x := ⟨_, rfl⟩
  obtain ⟨p2, q2, hb2, l2⟩ := two_new w (.cells #[.int .i64 k, .string t, .string n, .string c, .string st, .int .i64 vk, .int .i64 vm, .float .f64 vf, .string vs, .int .i64 wk, .int .i64 wm, .float .f64 wf, .string ws, .slice ra rl rc, .slice la ll lc, .bool f] 28) (.cells #[.int .i64 k, .string t, .string n, .string c, .string st, .int .i64 vk, .int .i64 vm, .float .f64 vf, .string vs, .int .i64 wk, .int .i64 wm, .float .f64 wf, .string ws, .slice ra rl rc, .slice la ll lc, .bool f, .int .i64 1, .int .i64 0, .int .i64 0, .int .i64 0, .int .i64 0] 48)
  rw [hW2] at p2 q2 hb2 l2 ⊢
  clear hW2
  have k0 : W2.cell? ⟨w.heap.size, 0, none⟩ = some (.int .i64 k) := box_cell p2 rfl
  have k1 : W2.cell? ⟨w.heap.size, 1, none⟩ = some (.string t) := box_cell p2 rfl
  have k2 : W2.cell? ⟨w.heap.size, 2, none⟩ = some (.string n) := box_cell p2 rfl
  have k3 : W2.cell? ⟨w.heap.size, 3, none⟩ = some (.string c) := box_cell p2 rfl
  have k4 : W2.cell? ⟨w.heap.size, 4, none⟩ = some (.string st) := box_cell p2 rfl
  have k5 : W2.cell? ⟨w.heap.size, 5, none⟩ = some (.int .i64 vk) := box_cell p2 rfl
  have k6 : W2.cell? ⟨w.heap.size, 6, none⟩ = some (.int .i64 vm) := box_cell p2 rfl
  have k7 : W2.cell? ⟨w.heap.size, 7, none⟩ = some (.float .f64 vf) := box_cell p2 rfl
  have k8 : W2.cell? ⟨w.heap.size, 8, none⟩ = some (.string vs) := box_cell p2 rfl
  have k9 : W2.cell? ⟨w.heap.size, 9, none⟩ = some (.int .i64 wk) := box_cell p2 rfl
  have k10 : W2.cell? ⟨w.heap.size, 10, none⟩ = some (.int .i64 wm) := box_cell p2 rfl
  have k11 : W2.cell? ⟨w.heap.size, 11, none⟩ = some (.float .f64 wf) := box_cell p2 rfl
  have k12 : W2.cell? ⟨w.heap.size, 12, none⟩ = some (.string ws) := box_cell p2 rfl
  have k13 : W2.cell? ⟨w.heap.size, 13, none⟩ = some (.slice ra rl rc) := box_cell p2 rfl
  have k14 : W2.cell? ⟨w.heap.size, 14, none⟩ = some (.slice la ll lc) := box_cell p2 rfl
  have k15 : W2.cell? ⟨w.heap.size, 15, none⟩ = some (.bool f) := box_cell p2 rfl
  unfold rnewRest
  simp only [Tryz.f9]
  by_cases hk : k = 17
  · subst hk
    have hgg := hg rfl
    clear hg hn
    cases bad
    · go_wp2_with (first
        | (go_at_call 29; refine (hgg W2 (by omega)).mono ?_; rintro e w' ⟨rfl, hb⟩
           have q3 := (hb.block (w.heap.size + 1) (by omega)).trans q2
           have hb3 := hb2.trans (hb.mono (by omega))))
      go_ret
      exact ⟨w.heap.size + 1, rfl, by omega, hb3, q3⟩
    · go_wp2_with (first
        | (go_at_call 29; refine (hgg W2 (by omega)).mono ?_; rintro e w' ⟨rfl, hb⟩
           have q3 := (hb.block (w.heap.size + 1) (by omega)).trans q2
           have hb3 := hb2.trans (hb.mono (by omega))
           have c16 : w'.cell? ⟨w.heap.size + 1, 16, none⟩ = some (.int .i64 1) := box_cell q3 rfl
           have c20 : w'.cell? ⟨w.heap.size + 1, 20, none⟩ = some (.int .i64 0) := box_cell q3 rfl
           have z16 : w'.frozen? ⟨w.heap.size + 1, 16, none⟩ = false := thawed q3
           have z20 : w'.frozen? ⟨w.heap.size + 1, 20, none⟩ = false := thawed q3))
      go_ret
      exact ⟨w.heap.size + 1, rfl, by omega, below_set (below_set hb3 (by omega) _) (by omega) _, set_block (set_block q3 _) _⟩
  · obtain rfl := hn hk
    clear hg hn
    have c16 : W2.cell? ⟨w.heap.size + 1, 16, none⟩ = some (.int .i64 1) := box_cell q2 rfl
    have c20 : W2.cell? ⟨w.heap.size + 1, 20, none⟩ = some (.int .i64 0) := box_cell q2 rfl
    have z16 : W2.frozen? ⟨w.heap.size + 1, 16, none⟩ = false := thawed q2
    have z20 : W2.frozen? ⟨w.heap.size + 1, 20, none⟩ = false := thawed q2
    go_wp2
    go_ret
    exact ⟨w.heap.size + 1, rfl, by omega, below_set (below_set hb2 (by omega) _) (by omega) _, set_block (set_block q2 _) _⟩

end Go.Proofs.YtpclafidblbicaaGreatDoor
