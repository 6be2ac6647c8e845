/-
  A statement (api.Stmt) as an argument: its cells, and what its two slices lead to.
-/
import Derived.Test.YtpclafidblbicaaGreatDoorRw
import Derived.Deep.Slices
import Derived.ChangeSame
import Derived.DataReads
import Derived.ChangeArms
import Derived.WideShapes
namespace Go.Proofs.YtpclafidblbicaaGreatDoor
open Go.ChangeShapes Go.WideShapes Go.Deep

section
variable {H : Type} {enc : TypeId × Value → H} {W : World} {base : Nat} {sp : Nat → Bool} {held : Bool}

theorem take_one {cs : List Value} {i : Nat} {v : Value} (h : (cs.drop i).take 1 = [v]) : cs[i]? = some v := by
  have := congrArg (fun l : List Value => l[0]?) h
  simpa using this

theorem trod_float {P : Program} {t : TypeId} {fk : FloatKind} {n : Nat} {cs : List Value} {x : DataW H × List MemPlace} (ht : P.underlying t = some (.float fk)) (h : DataW.trod enc P W base sp held n t cs = some x) : ∃ b, cs = [.float fk b] := by
  cases n with
  | zero => simp [DataW.trod] at h
  | succ n =>
    unfold DataW.trod at h
    rw [ht] at h
    split at h <;> simp_all

theorem trod_f {n : Nat} {cs : List Value} {x : DataW H × List MemPlace} (h : DataW.trod enc Tryz.prog W base sp held n 22 cs = some x) : ∃ b, cs = [.float .f64 b] := trod_float Tryz.underlying22 h

set_option maxRecDepth 100000 in
theorem val_cells {n : Nat} {cs : List Value} {x : DataW H × List MemPlace} (h : DataW.trod enc Tryz.prog W base sp held n 24 cs = some x) : ∃ k m f s, cs = [.int .i64 k, .int .i64 m, .float .f64 f, .string s] := by
  obtain ⟨xs, m, _, _, hcl, hxl, hf⟩ := DataW.trod_struct Tryz.underlying24 h
  have c4 : Tryz.prog.cellsOf 24 = 4 := by kernel_rfl
  have cI : Tryz.prog.cellsOf 3 = 1 := by kernel_rfl
  have cL : Tryz.prog.cellsOf 2 = 1 := by kernel_rfl
  have cF : Tryz.prog.cellsOf 22 = 1 := by kernel_rfl
  have cS : Tryz.prog.cellsOf 9 = 1 := by kernel_rfl
  rw [c4] at hcl
  have hx : ∀ i, i < 4 → ∃ y, xs[i]? = some y := fun i hi => ⟨_, List.getElem?_eq_getElem (by have : xs.length = 4 := hxl; omega)⟩
  obtain ⟨y0, e0⟩ := hx 0 (by omega)
  obtain ⟨y1, e1⟩ := hx 1 (by omega)
  obtain ⟨y2, e2⟩ := hx 2 (by omega)
  obtain ⟨y3, e3⟩ := hx 3 (by omega)
  have f0 : DataW.trod enc Tryz.prog W base sp held m 3 ((cs.drop 0).take (Tryz.prog.cellsOf 3)) = xs[0]? := hf 0 _ rfl
  have f1 : DataW.trod enc Tryz.prog W base sp held m 2 ((cs.drop 1).take (Tryz.prog.cellsOf 2)) = xs[1]? := hf 1 _ rfl
  have f2 : DataW.trod enc Tryz.prog W base sp held m 22 ((cs.drop 2).take (Tryz.prog.cellsOf 22)) = xs[2]? := hf 2 _ rfl
  have f3 : DataW.trod enc Tryz.prog W base sp held m 9 ((cs.drop 3).take (Tryz.prog.cellsOf 9)) = xs[3]? := hf 3 _ rfl
  rw [cI] at f0
  rw [cL] at f1
  rw [cF] at f2
  rw [cS] at f3
  rw [e0] at f0
  rw [e1] at f1
  rw [e2] at f2
  rw [e3] at f3
  obtain ⟨k, g0, _⟩ := DataW.trod_int Tryz.underlying3 f0
  obtain ⟨m, g1, _⟩ := DataW.trod_int Tryz.underlying2 f1
  obtain ⟨f, g2⟩ := trod_f f2
  obtain ⟨s, g3, _⟩ := DataW.trod_string Tryz.underlying9 f3
  have h0 := take_one g0
  have h1 := take_one g1
  have h2 := take_one g2
  have h3 := take_one g3
  obtain ⟨a0, a1, a2, a3, rfl⟩ : ∃ a0 a1 a2 a3, cs = [a0, a1, a2, a3] := by
    match cs, hcl with
    | [a, b, c, d], _ => exact ⟨a, b, c, d, rfl⟩
  exact ⟨k, m, f, s, by rw [Option.some.inj h0, Option.some.inj h1, Option.some.inj h2, Option.some.inj h3]⟩

end

section
variable {H : Type} {enc : TypeId × Value → H} {W : World}

/-- the cells of a value that lies in memory -/
theorem val_at {p : Addr} {cs : List Value} {k m : Int} {f : Nat} {s : ByteArray} {off : Nat} (h : ∀ i, off ≤ i → i < off + 4 → W.cell? (p.add i) = cs[i]?) (hc : (cs.drop off).take 4 = [.int .i64 k, .int .i64 m, .float .f64 f, .string s]) :
    W.cell? (p.add off) = some (.int .i64 k) ∧ W.cell? (p.add (off + 1)) = some (.int .i64 m) ∧ W.cell? (p.add (off + 2)) = some (.float .f64 f) ∧ W.cell? (p.add (off + 3)) = some (.string s) := by
  have g : ∀ j v, j < 4 → ([.int .i64 k, .int .i64 m, .float .f64 f, .string s] : List Value)[j]? = some v → W.cell? (p.add (off + j)) = some v := by
    intro j v hj hv
    rw [h (off + j) (by omega) (by omega)]
    rw [← hc, List.getElem?_take_of_lt hj, List.getElem?_drop] at hv
    exact hv
  exact ⟨g 0 _ (by omega) rfl, g 1 _ (by omega) rfl, g 2 _ (by omega) rfl, g 3 _ (by omega) rfl⟩

theorem row_of {n : Nat} {v : Value} {x : DataW H × List MemPlace} (h : DataW.trod enc Tryz.prog W 0 (fun _ => true) true n 25 [v] = some x) : RowOf W v := by
  have c4 : Tryz.prog.cellsOf 24 = 4 := by kernel_rfl
  rcases open_slice Tryz.underlying25 h with ⟨h0, _⟩ | ⟨a, len, cap, m, n', D, Pl, hcs, _, hl, hm, hmm, _, hi⟩
  · exact .inl (List.cons.inj h0).1
  · refine .inr ⟨a, len, cap, (List.cons.inj hcs).1, Nat.le_trans hl hm, ?_⟩
    have each : ∀ i, i < len → ∃ k m fl s, ValAt W (a.add (i * 4)) k m fl s := by
      intro i hlt
      have hm2 : m = cap := by rw [hmm]; rfl
      obtain ⟨cs', hc, ht⟩ := hi i (by omega)
      rw [c4] at hc
      obtain ⟨k, m', f, s, e⟩ := val_cells ht
      obtain ⟨_, hcl, hat⟩ := World.cells?_some hc
      obtain ⟨q0, q1, q2, q3⟩ := val_at (W := W) (p := a.add (i * 4)) (cs := cs') (off := 0) (fun j _ hj => hat j (by omega)) (by rw [List.drop_zero, e]; rfl)
      exact ⟨k, m', f, s, q0, q1, q2, q3⟩
    have hm3 : m = cap := by rw [hmm]; rfl
    refine ⟨fun h => ?_, each, cells_of (base := 0) (by decide) fun i hlt => ?_⟩
    rotate_left
    · obtain ⟨cs', hc, _⟩ := hi i (by omega)
      rw [c4] at hc
      exact ⟨cs', hc⟩
    obtain ⟨k, m', f, s, hv⟩ := each 0 h
    have := World.block_lt_of_cell? _ _ hv.c0
    rw [add_block] at this
    exact this

set_option maxRecDepth 100000 in
theorem cols_of {n : Nat} {v : Value} {x : DataW H × List MemPlace} (h : DataW.trod enc Tryz.prog W 0 (fun _ => true) true n 26 [v] = some x) : ColsOf W v := by
  have c7 : Tryz.prog.cellsOf 111 = 7 := by kernel_rfl
  have c4 : Tryz.prog.cellsOf 24 = 4 := by kernel_rfl
  have cS : Tryz.prog.cellsOf 9 = 1 := by kernel_rfl
  rcases open_slice Tryz.underlying26 h with ⟨h0, _⟩ | ⟨a, len, cap, m, n', D, Pl, hcs, _, hl, hm, hmm, _, hi⟩
  · exact .inl (List.cons.inj h0).1
  · refine .inr ⟨a, len, cap, (List.cons.inj hcs).1, Nat.le_trans hl hm, ?_⟩
    have each : ∀ i, i < len → ∃ nm k m fl s, ColAt W (a.add (i * 7)) nm k m fl s := by
      intro i hlt
      have hm2 : m = cap := by rw [hmm]; rfl
      obtain ⟨cs', hc, ht⟩ := hi i (by omega)
      rw [c7] at hc
      obtain ⟨_, hcl, hat⟩ := World.cells?_some hc
      obtain ⟨xs, mm, _, _, hcl2, hxl, hf⟩ := DataW.trod_struct Tryz.underlying111 ht
      have f0 : DataW.trod enc Tryz.prog W 0 (fun _ => true) true mm 9 ((cs'.drop 0).take (Tryz.prog.cellsOf 9)) = xs[0]? := hf 0 _ rfl
      have f3 : DataW.trod enc Tryz.prog W 0 (fun _ => true) true mm 24 ((cs'.drop 3).take (Tryz.prog.cellsOf 24)) = xs[3]? := hf 3 _ rfl
      rw [cS] at f0
      rw [c4] at f3
      have hx : ∀ i, i < 4 → ∃ y, xs[i]? = some y := fun i hi => ⟨_, List.getElem?_eq_getElem (by have : xs.length = 4 := hxl; omega)⟩
      obtain ⟨y0, e0⟩ := hx 0 (by omega)
      obtain ⟨y3, e3⟩ := hx 3 (by omega)
      rw [e0] at f0
      rw [e3] at f3
      obtain ⟨nm, g0, _⟩ := DataW.trod_string Tryz.underlying9 f0
      obtain ⟨k, m', f, s, e⟩ := val_cells f3
      have hnm : W.cell? (a.add (i * 7)) = some (.string nm) := by
        have := hat 0 (by omega)
        rw [take_one g0] at this
        exact this
      obtain ⟨q0, q1, q2, q3⟩ := val_at (W := W) (p := a.add (i * 7)) (cs := cs') (off := 3) (fun j _ hj => hat j (by omega)) e
      exact ⟨nm, k, m', f, s, hnm, q0, q1, q2, q3⟩
    have hm3 : m = cap := by rw [hmm]; rfl
    refine ⟨fun h => ?_, each, cells_of (base := 0) (by decide) fun i hlt => ?_⟩
    rotate_left
    · obtain ⟨cs', hc, _⟩ := hi i (by omega)
      rw [c7] at hc
      exact ⟨cs', hc⟩
    obtain ⟨nm, k, m', f, s, hv⟩ := each 0 h
    have := World.block_lt_of_cell? _ _ hv.name
    rw [add_block] at this
    exact this

set_option maxRecDepth 100000 in
set_option maxHeartbeats 4000000 in
theorem stmt_shape {base : Nat} {v0 : Value} {d0 : DataW H} {p0 : List MemPlace} (hv : Value.okWide Tryz.prog W .any base 28 v0) (h0 : DataW.Trod enc Tryz.prog W 0 (fun _ => true) true 28 v0 d0 p0) :
    ∃ k t n c st vk vm vf vs wk wm wf ws r l f, v0 = stmtV k t n c st vk vm vf vs wk wm wf ws r l f ∧ RowOf W r ∧ ColsOf W l := by
  obtain ⟨⟨cs⟩, rfl, hsz⟩ := okWide_struct Tryz.underlying28 hv
  have c16 : Tryz.prog.cellsOf 28 = 16 := by kernel_rfl
  have cI : Tryz.prog.cellsOf 3 = 1 := by kernel_rfl
  have cS : Tryz.prog.cellsOf 9 = 1 := by kernel_rfl
  have cV : Tryz.prog.cellsOf 24 = 4 := by kernel_rfl
  have cR : Tryz.prog.cellsOf 25 = 1 := by kernel_rfl
  have cC : Tryz.prog.cellsOf 26 = 1 := by kernel_rfl
  have cB : Tryz.prog.cellsOf 4 = 1 := by kernel_rfl
  rw [c16] at hsz
  have hlen : cs.length = 16 := by simpa using hsz
  obtain ⟨fuel, hf0⟩ := h0
  have hf1 : DataW.trod enc Tryz.prog W 0 (fun _ => true) true fuel 28 cs = some (d0, p0) := hf0
  obtain ⟨xs, m, _, _, _, hxl, hf⟩ := DataW.trod_struct Tryz.underlying28 hf1
  have hx : ∀ i, i < 10 → ∃ y, xs[i]? = some y := fun i hi => ⟨_, List.getElem?_eq_getElem (by have : xs.length = 10 := hxl; omega)⟩
  obtain ⟨y0, e0⟩ := hx 0 (by omega)
  obtain ⟨y1, e1⟩ := hx 1 (by omega)
  obtain ⟨y2, e2⟩ := hx 2 (by omega)
  obtain ⟨y3, e3⟩ := hx 3 (by omega)
  obtain ⟨y4, e4⟩ := hx 4 (by omega)
  obtain ⟨y5, e5⟩ := hx 5 (by omega)
  obtain ⟨y6, e6⟩ := hx 6 (by omega)
  obtain ⟨y7, e7⟩ := hx 7 (by omega)
  obtain ⟨y8, e8⟩ := hx 8 (by omega)
  obtain ⟨y9, e9⟩ := hx 9 (by omega)
  have f0 : DataW.trod enc Tryz.prog W 0 (fun _ => true) true m 3 ((cs.drop 0).take (Tryz.prog.cellsOf 3)) = xs[0]? := hf 0 _ rfl
  have f1 : DataW.trod enc Tryz.prog W 0 (fun _ => true) true m 9 ((cs.drop 1).take (Tryz.prog.cellsOf 9)) = xs[1]? := hf 1 _ rfl
  have f2 : DataW.trod enc Tryz.prog W 0 (fun _ => true) true m 9 ((cs.drop 2).take (Tryz.prog.cellsOf 9)) = xs[2]? := hf 2 _ rfl
  have f3 : DataW.trod enc Tryz.prog W 0 (fun _ => true) true m 9 ((cs.drop 3).take (Tryz.prog.cellsOf 9)) = xs[3]? := hf 3 _ rfl
  have f4 : DataW.trod enc Tryz.prog W 0 (fun _ => true) true m 9 ((cs.drop 4).take (Tryz.prog.cellsOf 9)) = xs[4]? := hf 4 _ rfl
  have f5 : DataW.trod enc Tryz.prog W 0 (fun _ => true) true m 24 ((cs.drop 5).take (Tryz.prog.cellsOf 24)) = xs[5]? := hf 5 _ rfl
  have f6 : DataW.trod enc Tryz.prog W 0 (fun _ => true) true m 24 ((cs.drop 9).take (Tryz.prog.cellsOf 24)) = xs[6]? := hf 6 _ rfl
  have f7 : DataW.trod enc Tryz.prog W 0 (fun _ => true) true m 25 ((cs.drop 13).take (Tryz.prog.cellsOf 25)) = xs[7]? := hf 7 _ rfl
  have f8 : DataW.trod enc Tryz.prog W 0 (fun _ => true) true m 26 ((cs.drop 14).take (Tryz.prog.cellsOf 26)) = xs[8]? := hf 8 _ rfl
  have f9 : DataW.trod enc Tryz.prog W 0 (fun _ => true) true m 4 ((cs.drop 15).take (Tryz.prog.cellsOf 4)) = xs[9]? := hf 9 _ rfl
  rw [cI] at f0
  rw [cS] at f1 f2 f3 f4
  rw [cV] at f5 f6
  rw [cR] at f7
  rw [cC] at f8
  rw [cB] at f9
  rw [e0] at f0
  rw [e1] at f1
  rw [e2] at f2
  rw [e3] at f3
  rw [e4] at f4
  rw [e5] at f5
  rw [e6] at f6
  rw [e7] at f7
  rw [e8] at f8
  rw [e9] at f9
  obtain ⟨k, g0, _⟩ := DataW.trod_int Tryz.underlying3 f0
  obtain ⟨t, g1, _⟩ := DataW.trod_string Tryz.underlying9 f1
  obtain ⟨n, g2, _⟩ := DataW.trod_string Tryz.underlying9 f2
  obtain ⟨c, g3, _⟩ := DataW.trod_string Tryz.underlying9 f3
  obtain ⟨st, g4, _⟩ := DataW.trod_string Tryz.underlying9 f4
  obtain ⟨vk, vm, vf, vs, g5⟩ := val_cells f5
  obtain ⟨wk, wm, wf, ws, g6⟩ := val_cells f6
  obtain ⟨f, g9, _⟩ := DataW.trod_bool Tryz.underlying4 f9
  obtain ⟨a0, a1, a2, a3, a4, a5, a6, a7, a8, a9, a10, a11, a12, a13, a14, a15, rfl⟩ : ∃ a0 a1 a2 a3 a4 a5 a6 a7 a8 a9 a10 a11 a12 a13 a14 a15, cs = [a0, a1, a2, a3, a4, a5, a6, a7, a8, a9, a10, a11, a12, a13, a14, a15] := by
    match cs, hlen with
    | [a0, a1, a2, a3, a4, a5, a6, a7, a8, a9, a10, a11, a12, a13, a14, a15], _ => exact ⟨a0, a1, a2, a3, a4, a5, a6, a7, a8, a9, a10, a11, a12, a13, a14, a15, rfl⟩
  have h7 : DataW.trod enc Tryz.prog W 0 (fun _ => true) true m 25 [a13] = some y7 := f7
  have h8 : DataW.trod enc Tryz.prog W 0 (fun _ => true) true m 26 [a14] = some y8 := f8
  have i0 : a0 = .int .i64 k := Option.some.inj (take_one g0)
  have i1 : a1 = .string t := Option.some.inj (take_one g1)
  have i2 : a2 = .string n := Option.some.inj (take_one g2)
  have i3 : a3 = .string c := Option.some.inj (take_one g3)
  have i4 : a4 = .string st := Option.some.inj (take_one g4)
  have i9 : a15 = .bool f := Option.some.inj (take_one g9)
  have g5' : [a5, a6, a7, a8] = [.int .i64 vk, .int .i64 vm, .float .f64 vf, .string vs] := g5
  have g6' : [a9, a10, a11, a12] = [.int .i64 wk, .int .i64 wm, .float .f64 wf, .string ws] := g6
  simp only [List.cons.injEq, and_true] at g5' g6'
  obtain ⟨j5, j6, j7, j8⟩ := g5'
  obtain ⟨j9, j10, j11, j12⟩ := g6'
  refine ⟨k, t, n, c, st, vk, vm, vf, vs, wk, wm, wf, ws, a13, a14, f, ?_, row_of h7, cols_of h8⟩
  rw [i0, i1, i2, i3, i4, i9, j5, j6, j7, j8, j9, j10, j11, j12]
  rfl

end
end Go.Proofs.YtpclafidblbicaaGreatDoor
