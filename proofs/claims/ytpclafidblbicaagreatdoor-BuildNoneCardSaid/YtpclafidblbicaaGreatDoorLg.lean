/-
  liverykeep.LargeStmt and its family: a bool is handed back; nothing that lay before the call has turned.
-/
import Derived.Test.YtpclafidblbicaaGreatDoorRows
import Derived.WalkKit
import Derived.OwnWalkIn
import Derived.TacticsInMore
import Derived.RegionIn
import Derived.LoopNIn
import Derived.LoopIn
import Derived.RangeFuncGives
namespace Go.Proofs.YtpclafidblbicaaGreatDoor
open Go.RowKit

/-- a bool is handed back -/
def IsBool (e : Ending) : Prop := ∃ b, e = .returned (.bool b)

/-- how long a slice is -/
def lenV : Value → Nat
  | .slice _ n _ => n
  | _ => 0

/-- a bool is handed back: false: the slice is short -/
def Small (r : Value) (e : Ending) : Prop := ∃ b, e = .returned (.bool b) ∧ (b = false → lenV r ≤ 50)
def SmallS (r l : Value) (e : Ending) : Prop := ∃ b, e = .returned (.bool b) ∧ (b = false → lenV r ≤ 50 ∧ lenV l ≤ 50)

set_option maxHeartbeats 1000000 in
theorem largeValue_in (F : Fence) (n : Nat) (hf : F.fn 15) (hro : F.round = none) (k m : Int) (fl : Nat) (s : ByteArray) (w : World) :
    CallsIn F n Tryz.prog 15 #[.agg #[.int .i64 k, .int .i64 m, .float .f64 fl, .string s]] w fun e w' => IsBool e ∧ Below w.heap.size w w' := by
  refine callsIn_of_wp Tryz.func15 rfl hf ?_ hro
  simp only [Tryz.ntmps15, List.size_toArray, List.length_cons, List.length_nil, Nat.reduceAdd, Nat.reduceSub, Array.replicate_succ, Array.replicate_zero, List.push_toArray, List.append_toArray, List.nil_append, List.cons_append]
  gi_wp2
  go_ret
  exact ⟨⟨_, rfl⟩, (Below.refl _ w).alloc (Nat.le_refl _) _⟩

/-- a value's cells -/
structure ValAt (w : World) (p : Addr) (k m : Int) (fl : Nat) (s : ByteArray) : Prop where
  c0 : w.cell? p = some (.int .i64 k)
  c1 : w.cell? ⟨p.block, p.off + 1, none⟩ = some (.int .i64 m)
  c2 : w.cell? ⟨p.block, p.off + 2, none⟩ = some (.float .f64 fl)
  c3 : w.cell? ⟨p.block, p.off + 3, none⟩ = some (.string s)

theorem add_block (a : Addr) (n : Nat) : (a.add n).block = a.block := by
  unfold Addr.add
  split <;> rfl

theorem ValAt.later {w w' : World} {B : Nat} {p : Addr} {k m : Int} {fl : Nat} {s : ByteArray} (h : ValAt w p k m fl s) (hb : Below B w w') (hp : p.block < B) : ValAt w' p k m fl s :=
  ⟨(hb.cell (p := p) hp).trans h.c0, (hb.cell (p := ⟨p.block, p.off + 1, none⟩) hp).trans h.c1, (hb.cell (p := ⟨p.block, p.off + 2, none⟩) hp).trans h.c2, (hb.cell (p := ⟨p.block, p.off + 3, none⟩) hp).trans h.c3⟩

set_option maxRecDepth 100000 in
set_option maxHeartbeats 2000000 in
theorem largeRow_in (F : Fence) (n : Nat) (hf : F.fn 16) (hv : F.fn 15) (hro : F.round = none) (hn : 1 ≤ n) (a : Addr) (len cap : Nat) (hlen : len ≤ maxLen) (w : World) (ha : 0 < len → a.block < w.heap.size) (h : ∀ i, i < len → ∃ k m fl s, ValAt w (a.add (i * 4)) k m fl s) :
    CallsIn F n Tryz.prog 16 #[.slice (some a) len cap] w fun e w' => Small (.slice (some a) len cap) e ∧ Below w.heap.size w w' := by
  refine callsIn_of_wp Tryz.func16 rfl hf ?_ hro
  simp only [Tryz.ntmps16, List.size_toArray, List.length_cons, List.length_nil, Nat.reduceAdd, Nat.reduceSub, Array.replicate_succ, Array.replicate_zero, List.push_toArray, List.append_toArray, List.nil_append, List.cons_append]
  by_cases h50 : (50 : Int) < len
  · have hd : decide ((50 : Int) < len) = true := by simpa using h50
    gi_wp2
    go_ret
    exact ⟨⟨_, rfl, fun h => absurd h (by decide)⟩, Below.refl _ w⟩
  · have hd : decide ((50 : Int) < len) = false := by simpa using h50
    gi_wp2
    gi_loopw [3] (fun i wr => ∃ k : Nat, k ≤ len ∧ i = .int .i64 k ∧ Below w.heap.size w wr) (fun i _ => match i with | .int _ z => len - z.toNat | _ => 0)
    case atStart => exact ⟨0, Nat.zero_le _, rfl, Below.refl _ w⟩
    case round =>
      obtain ⟨k, hk, rfl, hb⟩ := hrel
      by_cases hlt : k < len
      · obtain ⟨kk, m, fl, s, hv0⟩ := h k hlt
        obtain ⟨e0, e1, e2, e3⟩ := hv0.later hb (by rw [add_block]; exact ha (by omega))
        gi_wp2_with (gi_at_call 15; refine (largeValue_in F (n - 1) hv hro kk m fl s _).mono ?_; rintro e w' ⟨⟨b, rfl⟩, hb'⟩; have hbt := hb.trans (hb'.mono hb.size))
        all_goals first
          | exact ⟨⟨k + 1, by omega, by simp, hbt⟩, by simp; omega⟩
          | (go_ret
             exact ⟨⟨_, rfl, fun h => by first | exact absurd h (by decide) | (show len ≤ 50; omega)⟩, hbt⟩)
      · gi_wp2
        go_ret
        exact ⟨⟨_, rfl, fun h => by first | exact absurd h (by decide) | (show len ≤ 50; omega)⟩, hb⟩

/-- a column's cells -/
structure ColAt (w : World) (p : Addr) (nm : ByteArray) (k m : Int) (fl : Nat) (s : ByteArray) : Prop where
  name : w.cell? p = some (.string nm)
  dflt : ValAt w ⟨p.block, p.off + 3, none⟩ k m fl s

set_option maxRecDepth 100000 in
set_option maxHeartbeats 2000000 in
theorem largeColumns_in (F : Fence) (n : Nat) (hf : F.fn 17) (hv : F.fn 15) (hro : F.round = none) (hn : 1 ≤ n) (a : Addr) (len cap : Nat) (hlen : len ≤ maxLen) (w : World) (ha : 0 < len → a.block < w.heap.size) (h : ∀ i, i < len → ∃ nm k m fl s, ColAt w (a.add (i * 7)) nm k m fl s) :
    CallsIn F n Tryz.prog 17 #[.slice (some a) len cap] w fun e w' => Small (.slice (some a) len cap) e ∧ Below w.heap.size w w' := by
  refine callsIn_of_wp Tryz.func17 rfl hf ?_ hro
  simp only [Tryz.ntmps17, List.size_toArray, List.length_cons, List.length_nil, Nat.reduceAdd, Nat.reduceSub, Array.replicate_succ, Array.replicate_zero, List.push_toArray, List.append_toArray, List.nil_append, List.cons_append]
  by_cases h50 : (50 : Int) < len
  · have hd : decide ((50 : Int) < len) = true := by simpa using h50
    gi_wp2
    go_ret
    exact ⟨⟨_, rfl, fun h => absurd h (by decide)⟩, Below.refl _ w⟩
  · have hd : decide ((50 : Int) < len) = false := by simpa using h50
    gi_wp2
    gi_loopw [3] (fun i wr => ∃ k : Nat, k ≤ len ∧ i = .int .i64 k ∧ Below w.heap.size w wr) (fun i _ => match i with | .int _ z => len - z.toNat | _ => 0)
    case atStart => exact ⟨0, Nat.zero_le _, rfl, Below.refl _ w⟩
    case round =>
      obtain ⟨k, hk, rfl, hb⟩ := hrel
      by_cases hlt : k < len
      · obtain ⟨nm, kk, m, fl, s, hn0, hv0⟩ := h k hlt
        have e : wr.cell? (a.add (k * 7)) = some (.string nm) := (hb.cell (p := a.add (k * 7)) (by rw [add_block]; exact ha (by omega))).trans hn0
        obtain ⟨e0, e1, e2, e3⟩ := hv0.later hb (by show (a.add (k * 7)).block < _; rw [add_block]; exact ha (by omega))
        by_cases hbig : (1000 : Int) < nm.size
        · have hd2 : decide ((1000 : Int) < nm.size) = true := by simpa using hbig
          gi_wp2
          go_ret
          exact ⟨⟨_, rfl, fun h => by first | exact absurd h (by decide) | (show len ≤ 50; omega)⟩, hb⟩
        · have hd2 : decide ((1000 : Int) < nm.size) = false := by simpa using hbig
          gi_wp2_with (gi_at_call 15; refine (largeValue_in F (n - 1) hv hro kk m fl s _).mono ?_; rintro e w' ⟨⟨b, rfl⟩, hb'⟩; have hbt := hb.trans (hb'.mono hb.size))
          all_goals first
            | exact ⟨⟨k + 1, by omega, by simp, hbt⟩, by simp; omega⟩
            | (go_ret
               exact ⟨⟨_, rfl, fun h => by first | exact absurd h (by decide) | (show len ≤ 50; omega)⟩, hbt⟩)
      · gi_wp2
        go_ret
        exact ⟨⟨_, rfl, fun h => by first | exact absurd h (by decide) | (show len ≤ 50; omega)⟩, hb⟩

set_option maxRecDepth 100000 in
set_option maxHeartbeats 2000000 in
theorem largeRow_nil (F : Fence) (n : Nat) (hf : F.fn 16) (hro : F.round = none) (w : World) :
    CallsIn F n Tryz.prog 16 #[.slice none 0 0] w fun e w' => Small (.slice none 0 0) e ∧ Below w.heap.size w w' := by
  refine callsIn_of_wp Tryz.func16 rfl hf ?_ hro
  simp only [Tryz.ntmps16, List.size_toArray, List.length_cons, List.length_nil, Nat.reduceAdd, Nat.reduceSub, Array.replicate_succ, Array.replicate_zero, List.push_toArray, List.append_toArray, List.nil_append, List.cons_append]
  gi_wp2
  gi_loopw [3] (fun i wr => i = .int .i64 0 ∧ wr = w) (fun _ _ => 0)
  case atStart => exact ⟨rfl, rfl⟩
  case round =>
    obtain ⟨rfl, rfl⟩ := hrel
    gi_wp2
    go_ret
    exact ⟨⟨_, rfl, fun _ => Nat.zero_le _⟩, Below.refl _ _⟩

set_option maxRecDepth 100000 in
set_option maxHeartbeats 2000000 in
theorem largeColumns_nil (F : Fence) (n : Nat) (hf : F.fn 17) (hro : F.round = none) (w : World) :
    CallsIn F n Tryz.prog 17 #[.slice none 0 0] w fun e w' => Small (.slice none 0 0) e ∧ Below w.heap.size w w' := by
  refine callsIn_of_wp Tryz.func17 rfl hf ?_ hro
  simp only [Tryz.ntmps17, List.size_toArray, List.length_cons, List.length_nil, Nat.reduceAdd, Nat.reduceSub, Array.replicate_succ, Array.replicate_zero, List.push_toArray, List.append_toArray, List.nil_append, List.cons_append]
  gi_wp2
  gi_loopw [3] (fun i wr => i = .int .i64 0 ∧ wr = w) (fun _ _ => 0)
  case atStart => exact ⟨rfl, rfl⟩
  case round =>
    obtain ⟨rfl, rfl⟩ := hrel
    gi_wp2
    go_ret
    exact ⟨⟨_, rfl, fun _ => Nat.zero_le _⟩, Below.refl _ _⟩

/-- a statement's cells -/
def stmtV (k : Int) (t n c st : ByteArray) (vk vm : Int) (vf : Nat) (vs : ByteArray) (wk wm : Int) (wf : Nat) (ws : ByteArray) (r l : Value) (f : Bool) : Value :=
  .agg #[.int .i64 k, .string t, .string n, .string c, .string st, .int .i64 vk, .int .i64 vm, .float .f64 vf, .string vs, .int .i64 wk, .int .i64 wm, .float .f64 wf, .string ws, r, l, .bool f]

set_option maxRecDepth 100000 in
set_option maxHeartbeats 4000000 in
theorem largeStmt_in (F : Fence) (m : Nat) (hf : F.fn 4) (hv : F.fn 15) (hr : F.fn 16) (hc : F.fn 17) (hro : F.round = none) (hm : 2 ≤ m) (k : Int) (t n c st : ByteArray) (vk vm : Int) (vf : Nat) (vs : ByteArray) (wk wm : Int) (wf : Nat) (ws : ByteArray) (r l : Value) (f : Bool) (w : World)
    (hR : ∀ w1, Below w.heap.size w w1 → CallsIn F (m - 1) Tryz.prog 16 #[r] w1 fun e w' => Small r e ∧ Below w1.heap.size w1 w')
    (hL : ∀ w1, Below w.heap.size w w1 → CallsIn F (m - 1) Tryz.prog 17 #[l] w1 fun e w' => Small l e ∧ Below w1.heap.size w1 w') :
    CallsIn F m Tryz.prog 4 #[stmtV k t n c st vk vm vf vs wk wm wf ws r l f] w fun e w' => SmallS r l e ∧ Below w.heap.size w w' := by
  have h1 : 1 ≤ m := by omega
  refine callsIn_of_wp Tryz.func4 rfl hf ?_ hro
  simp only [stmtV, Tryz.ntmps4, List.size_toArray, List.length_cons, List.length_nil, Nat.reduceAdd, Nat.reduceSub, Array.replicate_succ, Array.replicate_zero, List.push_toArray, List.append_toArray, List.nil_append, List.cons_append]
  have hb0 : ∀ o, Below w.heap.size w (w.alloc o) := fun o => (Below.refl _ w).alloc (Nat.le_refl _) o
  have cellAt : ∀ w' : World, Below (w.heap.size + 1) (w.alloc (.cells #[.int .i64 k, .string t, .string n, .string c, .string st, .int .i64 vk, .int .i64 vm, .float .f64 vf, .string vs, .int .i64 wk, .int .i64 wm, .float .f64 wf, .string ws, r, l, .bool f] 28)) w' → Below w.heap.size w w' ∧ w'.cell? ⟨w.heap.size, 9, none⟩ = some (.int .i64 wk) ∧ w'.cell? ⟨w.heap.size, 10, none⟩ = some (.int .i64 wm) ∧ w'.cell? ⟨w.heap.size, 11, none⟩ = some (.float .f64 wf) ∧
      w'.cell? ⟨w.heap.size, 12, none⟩ = some (.string ws) ∧ w'.cell? ⟨w.heap.size, 13, none⟩ = some r ∧ w'.cell? ⟨w.heap.size, 14, none⟩ = some l := by
    intro w' hb
    have e : w'.heap[w.heap.size]? = some (.cells #[.int .i64 k, .string t, .string n, .string c, .string st, .int .i64 vk, .int .i64 vm, .float .f64 vf, .string vs, .int .i64 wk, .int .i64 wm, .float .f64 wf, .string ws, r, l, .bool f] 28) := (hb.block w.heap.size (by omega)).trans (World.alloc_heap_new w _)
    exact ⟨(hb0 _).trans (hb.mono (by omega)), by simp [World.cell?, e], by simp [World.cell?, e], by simp [World.cell?, e], by simp [World.cell?, e], by simp [World.cell?, e], by simp [World.cell?, e]⟩
  have next : ∀ w1 w2 : World, Below (w.heap.size + 1) (w.alloc (.cells #[.int .i64 k, .string t, .string n, .string c, .string st, .int .i64 vk, .int .i64 vm, .float .f64 vf, .string vs, .int .i64 wk, .int .i64 wm, .float .f64 wf, .string ws, r, l, .bool f] 28)) w1 → Below w1.heap.size w1 w2 → Below (w.heap.size + 1) (w.alloc (.cells #[.int .i64 k, .string t, .string n, .string c, .string st, .int .i64 vk, .int .i64 vm, .float .f64 vf, .string vs, .int .i64 wk, .int .i64 wm, .float .f64 wf, .string ws, r, l, .bool f] 28)) w2 := fun w1 w2 h h' => h.trans (h'.mono (by have := h.size; simp at this; omega))
  have hbr : Below (w.heap.size + 1) (w.alloc (.cells #[.int .i64 k, .string t, .string n, .string c, .string st, .int .i64 vk, .int .i64 vm, .float .f64 vf, .string vs, .int .i64 wk, .int .i64 wm, .float .f64 wf, .string ws, r, l, .bool f] 28)) (w.alloc (.cells #[.int .i64 k, .string t, .string n, .string c, .string st, .int .i64 vk, .int .i64 vm, .float .f64 vf, .string vs, .int .i64 wk, .int .i64 wm, .float .f64 wf, .string ws, r, l, .bool f] 28)) := Below.refl _ _
  by_cases d1 : (1000 : Int) < t.size
  · gi_wp2
    go_ret
    exact ⟨⟨_, rfl, fun h => absurd h (by decide)⟩, hb0 _⟩
  by_cases d2 : (1000 : Int) < n.size
  · gi_wp2
    go_ret
    exact ⟨⟨_, rfl, fun h => absurd h (by decide)⟩, hb0 _⟩
  by_cases d3 : (1000 : Int) < c.size
  · gi_wp2
    go_ret
    exact ⟨⟨_, rfl, fun h => absurd h (by decide)⟩, hb0 _⟩
  by_cases d4 : (1000 : Int) < st.size
  · gi_wp2
    go_ret
    exact ⟨⟨_, rfl, fun h => absurd h (by decide)⟩, hb0 _⟩
  iterate 5
    all_goals try gi_wp2_with (first
      | (gi_at_call 15; refine (largeValue_in F (m - 1) hv hro _ _ _ _ _).mono ?_; rintro e w' ⟨⟨b, rfl⟩, hb'⟩; obtain ⟨hbt, q9, q10, q11, q12, q13, q14⟩ := cellAt w' (next _ _ (by assumption) hb'); have hb2 := next _ _ (by assumption) hb'; cases b)
      | (gi_at_call 15; refine (largeValue_in F (m - 1) hv hro _ _ _ _ _).mono ?_; rintro e w' ⟨⟨b, rfl⟩, hb'⟩; obtain ⟨hbt, q9, q10, q11, q12, q13, q14⟩ := cellAt w' (next _ _ (by assumption) hb'); have hb2 := next _ _ (by assumption) hb'; cases b)
      | (gi_at_call 16; refine (hR _ (by first | assumption | exact (cellAt _ (by assumption)).1)).mono ?_; rintro e w' ⟨⟨b, rfl, hpR⟩, hb'⟩; obtain ⟨hbt, q9, q10, q11, q12, q13, q14⟩ := cellAt w' (next _ _ (by assumption) hb'); have hb2 := next _ _ (by assumption) hb'; cases b)
      | (gi_at_call 17; refine (hL _ (by first | assumption | exact (cellAt _ (by assumption)).1)).mono ?_; rintro e w' ⟨⟨b, rfl, hpL⟩, hb'⟩; obtain ⟨hbt, q9, q10, q11, q12, q13, q14⟩ := cellAt w' (next _ _ (by assumption) hb'); have hb2 := next _ _ (by assumption) hb'; cases b))
  all_goals
    go_ret
    exact ⟨⟨_, rfl, fun h => by first | exact absurd h (by decide) | exact ⟨hpR (by trivial), hpL (by trivial)⟩⟩, by assumption⟩

end Go.Proofs.YtpclafidblbicaaGreatDoor
