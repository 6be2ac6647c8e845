/-
  slices.Collect over maps.Keys of a map whose keys are siread.Thing: the keys, each once, in some order.
-/
import Derived.Test.YtpclafidblbicaaGreatDoorRows
import Derived.Test.YtpclafidblbicaaGreatDoorDetX
import Derived.Test.YtpclafidblbicaaGreatDoorDetY
import Derived.RangeFuncGives
import Derived.WalkKit
import Derived.OwnWalkIn
import Derived.TacticsInMore
import Derived.RegionIn
import Derived.LoopNIn
import Derived.LoopIn
import Derived.Maps.AppendAt
import Derived.Shelf.Abstract
import Derived.Shelf.SlIter.Collect
import Derived.Shelf.SlIter.Nil
namespace Go.Proofs.YtpclafidblbicaaGreatDoor
open Go.RowKit Go.Maps Go.Sort Go.Shelf
open Go.Det (wpListIn_range_raw wpListIn_next_raw Came)

structure Th where
  a : Int
  s : ByteArray
  b : Int
  t : ByteArray
  c : Int

def encT (x : Th) : Value := .agg #[.int .i64 x.a, .string x.s, .int .i64 x.b, .string x.t, .int .i64 x.c]

set_option maxRecDepth 100000 in
set_option maxHeartbeats 1000000 in
theorem keysT_in (F : Fence) (n : Nat) (hkg : F.fn 281) (hro : F.round = none) (hn : 1 ≤ n) (l Bm b : Nat) (es : Array MapEntry) (clock : Nat) (hold : ∀ x ∈ es.toList, x.born < clock) (hnd : (es.toList.map (·.born)).Nodup)
    (hkeys : ∀ x ∈ es.toList, ∃ y : Th, x.key = encT y) (J : List Th → World → Prop)
    (hY : ∀ pre x W, J pre W → pre.length < es.size → YieldAt F (n - 1) Tryz.prog l #[encT x] W fun e W' => e = .returned (.bool true) ∧ J (pre ++ [x]) W' ∧ KeepsWalks W W')
    (W : World) (hJ : AbidesFrom W.heap.size J) (hm : W.cell? ⟨Bm, 0, none⟩ = some (.map (some b))) (hb : W.heap[b]? = some (.map es clock)) (h0 : J [] W) :
    CallsIn F n Tryz.prog 281 #[.func (.yield l) #[] #[], .pointer (some ⟨Bm, 0, none⟩)] W fun e W' => (∃ v, e = .returned v) ∧ ∃ ss : List Th, (ss.map encT).Perm (es.toList.map (·.key)) ∧ J ss W' := by
  refine callsIn_of_wp Tryz.func281 rfl hkg ?_ hro
  simp only [Tryz.ntmps281, List.size_toArray, List.length_cons, List.length_nil, Nat.reduceAdd, Nat.reduceSub, Array.replicate_succ, Array.replicate_zero, List.push_toArray, List.append_toArray, List.nil_append, List.cons_append]
  gi_wp2_with (first
    | (gi_at_range; refine wpListIn_range_raw rfl _ 353 rfl 298 3 Tryz.underlying353 b es clock rfl hb ?_)
    | gi_in)
  go_frame
  gi_loopw [3] (fun _ wr => ∃ (seen : Array Nat) (ss : List Th), wr.heap[W.heap.size]? = some (.mapIter (some b) clock seen clock) ∧ wr.heap[b]? = some (.map es clock) ∧ Came es seen (ss.map encT) ∧ J ss wr)
    (fun _ wr => wr.rangeLeft b W.heap.size)
  case atStart =>
    exact ⟨#[], [], World.alloc_heap_new W _, (Below.heap_alloc W _ b (Array.getElem?_eq_some_iff.1 hb).1).trans hb, Came.start es, hJ [] W _ none h0 (World.grownBy_alloc W _ none) (fun r e => by cases e)⟩
  case round =>
    obtain ⟨seen, ss, hr, hbw, hC, hJs⟩ := hrel
    gi_wp2_with (first
      | (gi_at_next; refine wpListIn_next_raw rfl _ rfl b W.heap.size clock clock seen es clock rfl hr hbw hold (Nat.le_refl _) ?_ ?_)
      | gi_in)
    · -- NOTHING IS LEFT
      intro hz
      gi_wp2
      go_end0
      exact ⟨⟨_, rfl⟩, ss, hC.fin (by rw [hz]; rfl), hJs⟩
    · -- AN ENTRY HAS COME
      intro e he w1 hr1 hb1 hg1 hs1
      have he := Array.mem_toList_iff.2 he
      obtain ⟨hem, _⟩ := mem_left he
      obtain ⟨y, hy⟩ := hkeys e hem
      have hen := run_entry_at (P := Tryz.prog) w1 W.heap.size b clock seen es clock e hr1 hb1 hem hnd
      have hJ1 : J ss w1 := hJ ss wr w1 (some W.heap.size) hJs hg1 (fun r e => by cases e; exact ⟨Nat.le_refl _, ⟨_, hr, rfl⟩⟩)
      have hC1 := hC.step hnd he
      have hlt := hC.less he
      rw [hy] at hen hC1 ⊢
      rw [List.length_map] at hlt
      have hJ2 : J ss (w1.alloc (.cells #[.int .i64 y.a, .string y.s, .int .i64 y.b, .string y.t, .int .i64 y.c] 298)) := hJ ss w1 _ none hJ1 (World.grownBy_alloc w1 _ none) (fun r e => by cases e)
      obtain ⟨fn, tmps, assign, body, hyl, hR⟩ := hY ss y _ hJ2 hlt
      simp only [encT] at hen hyl ⊢
      gi_wp2
      refine hR.mono ?_
      rintro e' W3 ⟨rfl, hJ3, hk3⟩
      gi_wp2
      have hk := (KeepsWalks.alloc w1 (.cells #[.int .i64 y.a, .string y.s, .int .i64 y.b, .string y.t, .int .i64 y.c] 298)).trans hk3
      have hr3 := hk.same _ _ hr1 rfl
      have hb3 := hk.same _ _ hb1 rfl
      go_roundw
      case rel => exact ⟨_, ss ++ [y], hr3, hb3, by rw [List.map_append]; exact hC1, hJ3⟩
      case measure =>
        unfold World.rangeLeft
        rw [hr3, hb3, hr, hbw]
        exact left_shrinks es seen e he

/-- maps.Keys's iterator, as a value -/
theorem keysT_gives (F : Fence) (n : Nat) (hkg : F.fn 281) (hro : F.round = none) (hn : 1 ≤ n) (Bm b : Nat) (es : Array MapEntry) (clock : Nat) (hold : ∀ x ∈ es.toList, x.born < clock) (hnd : (es.toList.map (·.born)).Nodup)
    (hkeys : ∀ x ∈ es.toList, ∃ y : Th, x.key = encT y) (w : World) (hBm : Bm < w.heap.size) (hm : w.cell? ⟨Bm, 0, none⟩ = some (.map (some b))) (hb : w.heap[b]? = some (.map es clock)) :
    SeqGives F n Tryz.prog 281 #[.pointer (some ⟨Bm, 0, none⟩)] encT (fun ss => (ss.map encT).Perm (es.toList.map (·.key))) es.size w := fun l J W hW hJ hY h0 =>
  keysT_in F n hkg hro hn l Bm b es clock hold hnd hkeys J hY W hJ ((hW.cell (p := ⟨Bm, 0, none⟩) hBm).trans hm) ((hW.block b (Array.getElem?_eq_some_iff.1 hb).1).trans hb) h0

set_option maxRecDepth 100000 in
set_option maxHeartbeats 1000000 in
theorem keysT_nil_in (F : Fence) (n : Nat) (hkg : F.fn 281) (hro : F.round = none) (l Bm : Nat) (J : List Th → World → Prop) (W : World) (hJ : AbidesFrom W.heap.size J)
    (hm : W.cell? ⟨Bm, 0, none⟩ = some (.map none)) (h0 : J [] W) :
    CallsIn F n Tryz.prog 281 #[.func (.yield l) #[] #[], .pointer (some ⟨Bm, 0, none⟩)] W fun e W' => (∃ v, e = .returned v) ∧ ∃ ss : List Th, ss = [] ∧ J ss W' := by
  refine callsIn_of_wp Tryz.func281 rfl hkg ?_ hro
  simp only [Tryz.ntmps281, List.size_toArray, List.length_cons, List.length_nil, Nat.reduceAdd, Nat.reduceSub, Array.replicate_succ, Array.replicate_zero, List.push_toArray, List.append_toArray, List.nil_append, List.cons_append]
  have hrg := run_range_nilMap (P := Tryz.prog) W 353 298 3 Tryz.underlying353
  have hnx : ∀ ty, (Instr.next (.pointer (some ⟨W.heap.size, 0, none⟩)) false ty).run Tryz.prog (W.alloc (.mapIter none 0 #[] 0)) = _ := fun ty => run_next_nilMap _ ty 0 0 #[]
  gi_wp2
  refine wpIn_loop_rounds 1 ?_
  rw [roundsIn_succ]
  gi_wp2
  go_end0
  exact ⟨⟨_, rfl⟩, [], rfl, hJ [] W _ none h0 (World.grownBy_alloc W _ none) (fun r e => by cases e)⟩

theorem keysT_gives_nil (F : Fence) (n : Nat) (hkg : F.fn 281) (hro : F.round = none) (Bm : Nat) (w : World) (hBm : Bm < w.heap.size) (hm : w.cell? ⟨Bm, 0, none⟩ = some (.map none)) :
    SeqGives F n Tryz.prog 281 #[.pointer (some ⟨Bm, 0, none⟩)] encT (fun ss : List Th => ss = []) 0 w := fun l J W hW hJ _ h0 =>
  keysT_nil_in F n hkg hro l Bm J W hJ ((hW.cell (p := ⟨Bm, 0, none⟩) hBm).trans hm) h0

/-! ### slices.AppendSeq(nil, seq), slices.Collect(seq) -/
def cellsT (x : Th) : List Value := [.int .i64 x.a, .string x.s, .int .i64 x.b, .string x.t, .int .i64 x.c]

theorem cells_new (w : World) (x : Th) (t : TypeId) : ∀ (j : Nat) (u : Value), (cellsT x)[j]? = some u → (w.alloc (.cells #[.int .i64 x.a, .string x.s, .int .i64 x.b, .string x.t, .int .i64 x.c] t)).cell? ((⟨w.heap.size, 0, none⟩ : Addr).add j) = some u := by
  intro j u h
  have hb := World.alloc_heap_new w (.cells #[.int .i64 x.a, .string x.s, .int .i64 x.b, .string x.t, .int .i64 x.c] t)
  have he : (⟨w.heap.size, 0, none⟩ : Addr).add j = ⟨w.heap.size, j, none⟩ := by rw [Go.Det.Addr.add_eq, Nat.zero_add]
  rw [he]
  simp only [World.cell?, hb]
  unfold cellsT at h
  rw [← h, ← List.getElem?_toArray]
  rfl

theorem cellsT_one (x : Th) : ∀ u ∈ cellsT x, u.oneCell' = true := by
  intro u hu
  simp only [cellsT, List.mem_cons, List.not_mem_nil, or_false] at hu
  rcases hu with rfl | rfl | rfl | rfl | rfl <;> rfl

def apAssign : Code := (Code.region 2 #[{ dst := some 5, op := Op.alloc 298, type := 0, pos := "iter.go:51", after := #[], guard := none }, { dst := none, op := Op.store 298 (Operand.tmp 5) (Operand.tmp 7), type := 0, pos := "iter.go:51", after := #[{ on := 0, ground := Ground.data }, { on := 0, ground := Ground.phase }], guard := none }] false)
def apBody : Code := (Code.block 1 (Code.region 3 #[{ dst := some 8, op := Op.load 329 (Operand.tmp 2), type := 329, pos := "iter.go:52", after := #[], guard := none }, { dst := some 9, op := Op.load 298 (Operand.tmp 5), type := 298, pos := "iter.go:52", after := #[], guard := none }, { dst := some 10, op := Op.buildSlice 329 1 #[(0, Operand.tmp 9)], type := 329, pos := "iter.go:52", after := #[{ on := 1, ground := Ground.data }], guard := none }, { dst := some 11, op := Op.call { callee := Callee.builtin Builtin.append, args := #[Operand.tmp 8, Operand.tmp 10], argTypes := #[329, 329] }, type := 329, pos := "iter.go:52", after := #[{ on := 0, ground := Ground.data }, { on := 2, ground := Ground.data }], guard := none }, { dst := none, op := Op.store 329 (Operand.tmp 2) (Operand.tmp 11), type := 0, pos := "iter.go:52", after := #[{ on := 3, ground := Ground.data }, { on := 3, ground := Ground.chain }, { on := 0, ground := Ground.phase }, { on := 1, ground := Ground.phase }, { on := 2, ground := Ground.phase }, { on := 3, ground := Ground.phase }], guard := none }] false))

/-- the loop's record -/
def apRec (fn : FuncId) (sv : Value) (Bs D : Nat) (st : LoopState) (pend : Option Code) : Loop :=
  { state := st, pending := pend, fn, tmps := #[.slice none 0 0, sv, .pointer (some ⟨Bs, 0, none⟩), undef, .slice none 0 0, undef, sv, undef, undef, undef, undef, undef, undef], params := #[7], assign := apAssign, body := apBody, defers := D }

/-- between two rounds -/
structure ApAt (w0 : World) (fn : FuncId) (sv : Value) (Bs l D : Nat) (ss : List Th) (W : World) : Prop where
  box : ∃ v, W.heap[Bs]? = some (.cells #[v] 329 (0, 0)) ∧ W.ownsRow w0.heap.size 298 5 v ss.length (ss.flatMap cellsT) ∧ (v = .slice none 0 0 ↔ ss = [])
  L : W.heap[l]? = some (.loop (apRec fn sv Bs D .ready none))
  K : W.heap[D]? = some (.deferred (some []))
  below : Below w0.heap.size w0 W

theorem ap_abides (w0 : World) (fn : FuncId) (sv : Value) (Bs l D B : Nat) (hB : w0.heap.size ≤ B) : AbidesFrom B (ApAt w0 fn sv Bs l D) := fun s W W' row h hg hrow => by
  have hrow' : ∀ r, row = some r → ∃ o : Obj, W.heap[r]? = some o ∧ o.isWalk = true := fun r e => (hrow r e).2
  obtain ⟨v, hv, hr, hn⟩ := h.box
  exact ⟨⟨v, (grownBy_keeps hg hrow' hv rfl).trans hv, ownsRow_abides_a hr hg hrow', hn⟩, (grownBy_keeps hg hrow' h.L rfl).trans h.L, (grownBy_keeps hg hrow' h.K rfl).trans h.K,
    h.below.grown hg h.below.size (fun k e => Nat.le_trans hB (hrow k e).1)⟩

theorem infoT : (Tryz.prog.info? 298).map (fun i => (i.zero, i.size, i.bytes)) = some (some (.agg #[.int .i64 0, .string ⟨#[]⟩, .int .i64 0, .string ⟨#[]⟩, .int .i64 0]), 5, 56) := by kernel_rfl

set_option maxRecDepth 100000 in
set_option maxHeartbeats 2000000 in
theorem apYield (F : Fence) (m : Nat) (w0 : World) (fn : FuncId) (hfn : F.fn fn) (sv : Value) (Bs l D : Nat) (hBl : Bs ≠ l) (hDl : D ≠ l) (hDB : D ≠ Bs) (h0B : w0.heap.size ≤ Bs) (h0l : w0.heap.size ≤ l)
    (N : Nat) (hN : N ≤ maxLen) (hNb : N * 56 ≤ 140737488355328) (ss : List Th) (x : Th) (W : World) (h : ApAt w0 fn sv Bs l D ss W) (hlen : ss.length < N) :
    YieldAt F m Tryz.prog l #[encT x] W fun e W' => e = .returned (.bool true) ∧ ApAt w0 fn sv Bs l D (ss ++ [x]) W' ∧ KeepsWalks W W' := by
  obtain ⟨i0, hi, hz0, hz1, hz2⟩ := info_parts infoT
  obtain ⟨v, hv, hrow, _⟩ := h.box
  refine ⟨fn, #[.slice none 0 0, sv, .pointer (some ⟨Bs, 0, none⟩), undef, .slice none 0 0, undef, sv, encT x, undef, undef, undef, undef, undef], apAssign, apBody, by simpa [apRec] using run_yield (P := Tryz.prog) (args := #[encT x]) h.L rfl, roundIn_of_wpIn hfn ?_⟩
  have hl : l < W.heap.size := (Array.getElem?_eq_some_iff.1 h.L).1
  have hlB : Bs < W.heap.size := (Array.getElem?_eq_some_iff.1 hv).1
  have hlD : D < W.heap.size := (Array.getElem?_eq_some_iff.1 h.K).1
  obtain ⟨Wa, hWa⟩ : ∃ Wa, W.alloc (.cells #[.int .i64 x.a, .string x.s, .int .i64 x.b, .string x.t, .int .i64 x.c] 298) = Wa := ⟨_, rfl⟩
  have hLa : Wa.heap[l]? = some (.loop (apRec fn sv Bs D .ready none)) := by rw [← hWa]; exact (Below.heap_alloc _ _ l hl).trans h.L
  have hva : Wa.heap[Bs]? = some (.cells #[v] 329 (0, 0)) := by rw [← hWa]; exact (Below.heap_alloc _ _ Bs hlB).trans hv
  have hKa : Wa.heap[D]? = some (.deferred (some [])) := by rw [← hWa]; exact (Below.heap_alloc _ _ D hlD).trans h.K
  have hca : Wa.heap[W.heap.size]? = some (.cells #[.int .i64 x.a, .string x.s, .int .i64 x.b, .string x.t, .int .i64 x.c] 298 (0, 0)) := by rw [← hWa]; exact World.alloc_heap_new W _
  have hsa : Wa.heap.size = W.heap.size + 1 := by rw [← hWa]; simp
  have hga : W.grownBy Wa none := by rw [← hWa]; exact World.grownBy_alloc W _ none
  have hka : KeepsWalks W Wa := by rw [← hWa]; exact KeepsWalks.alloc _ _
  have hrowa : Wa.ownsRow w0.heap.size 298 5 v ss.length (ss.flatMap cellsT) := by rw [← hWa]; exact hrow.alloc _
  have hba : Below w0.heap.size w0 Wa := h.below.grown hga h.below.size (fun k e => by cases e)
  have hbr := run_beginRound (P := Tryz.prog) hLa rfl
  obtain ⟨W2, hW2⟩ : ∃ W2, Wa.putObj l (.loop { apRec fn sv Bs D .ready none with state := .busy }) = W2 := ⟨_, rfl⟩
  rw [hW2] at hbr
  have hg2 : Wa.grownBy W2 (some l) := by rw [← hW2]; exact grownBy_putObj_a _ _ _
  have hk2 : KeepsWalks Wa W2 := by rw [← hW2]; exact KeepsWalks.putObj _ hLa rfl
  have hv2 : W2.heap[Bs]? = some (.cells #[v] 329 (0, 0)) := by rw [← hW2]; exact (World.putObj_heap_other hBl).trans hva
  have hK2 : W2.heap[D]? = some (.deferred (some [])) := by rw [← hW2]; exact (World.putObj_heap_other hDl).trans hKa
  have hL2 : W2.heap[l]? = some (.loop { apRec fn sv Bs D .ready none with state := .busy }) := by rw [← hW2]; exact World.putObj_heap_same (by omega)
  have hx2 : W2.heap[W.heap.size]? = some (.cells #[.int .i64 x.a, .string x.s, .int .i64 x.b, .string x.t, .int .i64 x.c] 298 (0, 0)) := by rw [← hW2]; exact (World.putObj_heap_other (by omega)).trans hca
  have hrow2 : W2.ownsRow w0.heap.size 298 5 v ss.length (ss.flatMap cellsT) := hrowa.kept hg2 (ownsRow_ne_a hrowa hLa (fun cur e => by cases e))
  have hb2 : Below w0.heap.size w0 W2 := hba.grown hg2 hba.size (fun k e => by cases e; exact h0l)
  have hs2 : W2.heap.size = W.heap.size + 1 := by rw [← hW2]; simp [hsa]
  obtain ⟨hc2, hf2⟩ := cell_of_box_a hv2
  have hBlt : Bs < W2.heap.size := (Array.getElem?_eq_some_iff.1 hv2).1
  have hl2 : l < W2.heap.size := (Array.getElem?_eq_some_iff.1 hL2).1
  have hDlt : D < W2.heap.size := (Array.getElem?_eq_some_iff.1 hK2).1
  have ne_of : ∀ {j : Nat} {o : Obj}, W2.heap[j]? = some o → (∀ cur, o ≠ .cells cur 298 (0, 0)) → some j ≠ v.ownBlock := fun hj hno => by
    rcases ownsRow_ne_a hrow2 hj hno with e | e
    · rw [e]; simp
    · exact fun e' => e e'.symm
  clear hW2
  unfold apAssign encT
  gi_wp2_with gi_round_op_a
  have d0 : W2.cell? ⟨W.heap.size, 0, none⟩ = some (.int .i64 x.a) := by simp [World.cell?, hx2]
  have d1 : W2.cell? ⟨W.heap.size, 1, none⟩ = some (.string x.s) := by simp [World.cell?, hx2]
  have d2 : W2.cell? ⟨W.heap.size, 2, none⟩ = some (.int .i64 x.b) := by simp [World.cell?, hx2]
  have d3 : W2.cell? ⟨W.heap.size, 3, none⟩ = some (.string x.t) := by simp [World.cell?, hx2]
  have d4 : W2.cell? ⟨W.heap.size, 4, none⟩ = some (.int .i64 x.c) := by simp [World.cell?, hx2]
  unfold apBody
  gi_wp2_with (first
    | (gi_at_builtin; refine wpListIn_append_own _ rfl _ _ 329 rfl w0.heap.size 298 i0 _ 5 56 Tryz.underlying329 hi hz0 hz1 hz2 rfl (by decide) _ _ _ rfl (hrow2.alloc _) ⟨W.heap.size + 1, 0, none⟩ 1 1 (cellsT x) rfl rfl (by rw [← hs2]; exact cells_new W2 x 298) (cellsT_one x) (by omega) (by omega) (by have := hb2.size; simp; omega) ?_; intro v' w3 hown' hg3 hnil3
       have hv3 : w3.heap[Bs]? = some (.cells #[v] 329 (0, 0)) := (hg3.block Bs (by simp; omega) (ne_of hv2 (fun cur e => by cases e))).trans ((Below.heap_alloc _ _ Bs hBlt).trans hv2)
       obtain ⟨hc3, hf3⟩ := cell_of_box_a hv3
       obtain ⟨g', cap', cur', rfl, hbase', hgb', hr1, hr2, hr3, hr4⟩ : ∃ g' cap' cur', v' = .slice (some ⟨g', 0, none⟩) (ss.length + 1) cap' ∧ w0.heap.size ≤ g' ∧ w3.heap[g']? = some (.cells cur' 298 (0, 0)) ∧ ss.length + 1 ≤ cap' ∧ cap' ≤ maxLen ∧ cur'.size = cap' * 5 ∧ cur'.toList.take ((ss.length + 1) * 5) = ss.flatMap cellsT ++ cellsT x := by
         rcases hown'.2 with ⟨_, h0⟩ | h'
         · exact absurd h0 (by omega)
         · exact h'
       go_frame)
    | gi_round_op_a)
  have hg3' : (W2.alloc (.cells #[.int .i64 x.a, .string x.s, .int .i64 x.b, .string x.t, .int .i64 x.c] 298)).grownBy w3 v.ownBlock := hg3
  have hL3 : w3.heap[l]? = some (.loop { apRec fn sv Bs D .ready none with state := .busy }) := (hg3'.block l (by simp; omega) (ne_of hL2 (fun cur e => by cases e))).trans ((Below.heap_alloc _ _ l hl2).trans hL2)
  have hK3 : w3.heap[D]? = some (.deferred (some [])) := (hg3'.block D (by simp; omega) (ne_of hK2 (fun cur e => by cases e))).trans ((Below.heap_alloc _ _ D hDlt).trans hK2)
  obtain ⟨w4, hw4⟩ : ∃ w4, w3.setCell ⟨Bs, 0, none⟩ (.slice (some ⟨g', 0, none⟩) (ss.length + 1) cap') = w4 := ⟨_, rfl⟩
  rw [hw4]
  have hg4 : w3.grownBy w4 (some Bs) := by rw [← hw4]; exact grownBy_setCell0_a _ _ _
  have hv4 : w4.heap[Bs]? = some (.cells #[.slice (some ⟨g', 0, none⟩) (ss.length + 1) cap'] 329 (0, 0)) := by rw [← hw4]; exact heap_setCell_box_a _ hv3
  have hL4 : w4.heap[l]? = some (.loop { apRec fn sv Bs D .ready none with state := .busy }) := (hg4.block l (Array.getElem?_eq_some_iff.1 hL3).1 (fun e => hBl (by cases e; rfl))).trans hL3
  have hK4 : w4.heap[D]? = some (.deferred (some [])) := (hg4.block D (Array.getElem?_eq_some_iff.1 hK3).1 (fun e => hDB (by cases e; rfl))).trans hK3
  have hrow4 := hown'.kept hg4 (ownsRow_ne_a hown' hv3 (fun cur e => by cases e))
  have hl4 : l < w4.heap.size := (Array.getElem?_eq_some_iff.1 hL4).1
  have hb3 : Below w0.heap.size w0 w3 := (hb2.alloc hb2.size _).grown hg3' (by have := hb2.size; simp; omega) (fun k e => (hrow2.lt k e).1)
  have hb4 : Below w0.heap.size w0 w4 := hb3.grown hg4 hb3.size (fun k e => by cases e; exact h0B)
  have hk4 : KeepsWalks W w4 := (((hka.trans hk2).trans (KeepsWalks.alloc _ _)).trans (KeepsWalks.of_grownBy hg3' (ownsRow_not_walk_a (hrow2.alloc _)))).trans (by rw [← hw4]; exact KeepsWalks.setCell _ _ _)
  clear hw4
  refine ⟨_, _, run_endRound none hL4, rfl, ⟨⟨_, (World.putObj_heap_other hBl).trans hv4, ?_, by simp⟩, World.putObj_heap_same hl4, (World.putObj_heap_other hDl).trans hK4, hb4.grown (grownBy_putObj_a _ _ _) hb4.size (fun k e => by cases e; exact h0l)⟩, hk4.trans (KeepsWalks.putObj _ hL4 rfl)⟩
  have := hrow4.kept (grownBy_putObj_a w4 l (.loop { { apRec fn sv Bs D .ready none with state := .busy } with state := if (none : Option Code).isNone then .ready else .done, pending := none })) (ownsRow_ne_a hrow4 hL4 (fun cur e => by cases e))
  simpa using this

set_option maxRecDepth 100000 in
set_option maxHeartbeats 2000000 in
theorem appendSeqT_in (F : Fence) (n : Nat) (hap : F.fn 306) (hro : F.round = none) (hn : 2 ≤ n) (g : Nat) (lb : Array Value) (hFg : F.fn g) (eg : ∀ args w, (callFunc g args).run Tryz.prog w = .ok (.enter g args) w)
    (S : List Th → Prop) (N : Nat) (hN : N ≤ maxLen) (hNb : N * 56 ≤ 140737488355328) (w : World) (hseq : SeqGives F (n - 1) Tryz.prog g lb encT S N w) :
    CallsIn F n Tryz.prog 306 #[.slice none 0 0, .func (.func g) #[] lb] w fun e w' => ∃ (v : Value) (ss : List Th), e = .returned v ∧ S ss ∧ w'.ownsRow w.heap.size 298 5 v ss.length (ss.flatMap cellsT) ∧ (v = .slice none 0 0 ↔ ss = []) ∧ Below w.heap.size w w' := by
  have h1 : 1 ≤ n := by omega
  refine callsIn_of_wp_marks Tryz.func306 rfl hap ?_ hro
  simp only [Tryz.ntmps306, List.size_toArray, List.length_cons, List.length_nil, Nat.reduceAdd, Nat.reduceSub, Array.replicate_succ, Array.replicate_zero, List.push_toArray, List.append_toArray, List.nil_append, List.cons_append]
  gi_wp2
  refine wpIn_rangeFunc ?_
  intro fn hfn
  rw [hro]
  obtain ⟨W0, hW0⟩ : ∃ W0, w.alloc (.cells #[.slice none 0 0] 329) = W0 := ⟨_, rfl⟩
  have hs0 : W0.heap.size = w.heap.size + 1 := by rw [← hW0]; simp
  have hv0 : W0.heap[w.heap.size]? = some (.cells #[.slice none 0 0] 329 (0, 0)) := by rw [← hW0]; exact World.alloc_heap_new w _
  have hb0 : Below w.heap.size w W0 := by rw [← hW0]; exact (Below.refl _ w).alloc (Nat.le_refl _) _
  rw [hW0]
  obtain ⟨W1, hW1⟩ : ∃ W1, (W0.alloc (.deferred (some []))).alloc (.loop (apRec fn (.func (.func g) #[] lb) w.heap.size W0.heap.size .ready none)) = W1 := ⟨_, rfl⟩
  have hold : ∀ k, k < W0.heap.size → W1.heap[k]? = W0.heap[k]? := fun k hk => by
    rw [← hW1]; exact (Below.heap_alloc _ _ k (by simp; omega)).trans (Below.heap_alloc _ _ k hk)
  have hb1 : Below w.heap.size w W1 := by rw [← hW1]; exact (hb0.alloc hb0.size _).alloc (by have := hb0.size; simp; omega) _
  have hs1 : W1.heap.size = W0.heap.size + 2 := by rw [← hW1]; simp
  have hM : ApAt w fn (.func (.func g) #[] lb) w.heap.size (W0.heap.size + 1) W0.heap.size [] W1 :=
    ⟨⟨_, (hold w.heap.size (by omega)).trans hv0, ⟨rfl, .inl ⟨rfl, rfl⟩⟩, by simp⟩,
     by rw [← hW1]; have := World.alloc_heap_new (W0.alloc (.deferred (some []))) (.loop (apRec fn (.func (.func g) #[] lb) w.heap.size W0.heap.size .ready none)); rwa [World.size_alloc] at this,
     by rw [← hW1]; exact (Below.heap_alloc _ _ _ (by simp)).trans (World.alloc_heap_new W0 _), hb1⟩
  refine ⟨W0.heap.size + 1, [{ target := .collected W0.heap.size, args := #[] }], W1, { target := .fn (.func g) lb, args := #[.func (.yield (W0.heap.size + 1)) #[] #[]] }, W1, g,
    #[.func (.yield (W0.heap.size + 1)) #[] #[]] ++ lb, W1, ?_, ?_, ?_, ?_, fun _ => h1, ?_⟩
  · rw [← hW1]; exact run_enterLoop_outer _ _ _ _ _
  · simp [resolve, go_sem]
  · intro f' hf'; simp [Target.leads] at hf'; subst hf'; exact hFg
  · simp [invoke, go_sem, eg]
  · refine (hseq (W0.heap.size + 1) (ApAt w fn (.func (.func g) #[] lb) w.heap.size (W0.heap.size + 1) W0.heap.size) W1 hb1 (ap_abides _ _ _ _ _ _ _ hb1.size)
      (fun pre x W hJ hl => apYield F (n - 1 - 1) w fn hfn _ w.heap.size (W0.heap.size + 1) W0.heap.size (by omega) (by omega) (by omega) (Nat.le_refl _) (by omega) N hN hNb pre x W hJ hl) hM).mono ?_
    rintro e W2 ⟨⟨v0, rfl⟩, ss, hS, h2⟩
    obtain ⟨v, hv, hrow, hnil⟩ := h2.box
    have hend := run_endLoop (P := Tryz.prog) h2.L (by simp [apRec])
    obtain ⟨W3, hW3⟩ : ∃ W3, W2.putObj (W0.heap.size + 1) (.loop { apRec fn (.func (.func g) #[] lb) w.heap.size W0.heap.size .ready none with state := .exhausted }) = W3 := ⟨_, rfl⟩
    rw [hW3] at hend
    have hg3 : W2.grownBy W3 (some (W0.heap.size + 1)) := by rw [← hW3]; exact grownBy_putObj_a _ _ _
    have hv3 : W3.heap[w.heap.size]? = some (.cells #[v] 329 (0, 0)) := by rw [← hW3]; exact (World.putObj_heap_other (by omega)).trans hv
    have hK3 : W3.heap[W0.heap.size]? = some (.deferred (some [])) := by rw [← hW3]; exact (World.putObj_heap_other (by omega)).trans h2.K
    have hrow3 := hrow.kept hg3 (ownsRow_ne_a hrow h2.L (fun cur e => by cases e))
    have hb3 : Below w.heap.size w W3 := h2.below.grown hg3 h2.below.size (fun k e => by cases e; omega)
    obtain ⟨hc3, hf3⟩ := cell_of_box_a hv3
    clear hW3
    refine ⟨none, W3, hend, ?_⟩
    gi_wp2
    rw [← hs0]
    refine ⟨by simp, .inl ⟨_, _, rfl, run_takeDeferred hK3, ?_⟩⟩
    exact ⟨_, results_tmp rfl _ _ _, v, ss, rfl, hS, hrow3.kept (grownBy_putObj_a _ _ _) (ownsRow_ne_a hrow3 hK3 (fun cur e => by cases e)), hnil, hb3.grown (grownBy_putObj_a _ _ _) hb3.size (fun k e => by cases e; omega)⟩

set_option maxHeartbeats 1000000 in
theorem collectT_in (F : Fence) (n : Nat) (hco : F.fn 279) (hap : F.fn 306) (hro : F.round = none) (hn : 3 ≤ n) (g : Nat) (lb : Array Value) (hFg : F.fn g) (eg : ∀ args w, (callFunc g args).run Tryz.prog w = .ok (.enter g args) w)
    (S : List Th → Prop) (N : Nat) (hN : N ≤ maxLen) (hNb : N * 56 ≤ 140737488355328) (w : World) (hseq : SeqGives F (n - 1 - 1) Tryz.prog g lb encT S N w) :
    CallsIn F n Tryz.prog 279 #[.func (.func g) #[] lb] w fun e w' => ∃ (v : Value) (ss : List Th), e = .returned v ∧ S ss ∧ w'.ownsRow w.heap.size 298 5 v ss.length (ss.flatMap cellsT) ∧ (v = .slice none 0 0 ↔ ss = []) ∧ Below w.heap.size w w' := by
  have h1 : 1 ≤ n := by omega
  refine callsIn_of_wp Tryz.func279 rfl hco ?_ hro
  simp only [Tryz.ntmps279, List.size_toArray, List.length_cons, List.length_nil, Nat.reduceAdd, Nat.reduceSub, Array.replicate_succ, Array.replicate_zero, List.push_toArray, List.append_toArray, List.nil_append, List.cons_append]
  gi_wp2_with (gi_at_call 306; refine (appendSeqT_in F (n - 1) hap hro (by omega) g lb hFg eg S N hN hNb _ hseq).mono ?_; rintro e w' ⟨v, ss, rfl, hS, hrow, hnil, hb⟩)
  go_ret
  exact ⟨v, ss, rfl, hS, hrow, hnil, hb⟩

/-! ### In the evaluator's words -/
def thingB (v : Value) : Bool :=
  match v with
  | .agg cs =>
    match cs.toList with
    | [.int .i64 _, .string _, .int .i64 _, .string _, .int .i64 _] => true
    | _ => false
  | _ => false

theorem thingB_enc {v : Value} (h : thingB v = true) : ∃ y : Th, v = encT y := by
  unfold thingB at h
  split at h
  · rename_i cs
    split at h
    · rename_i a s b t c hcs
      exact ⟨⟨a, s, b, t, c⟩, congrArg Value.agg (Array.ext' hcs)⟩
    · cases h
  · cases h

theorem encT_cells (y : Th) : (encT y).cells.toList = cellsT y := rfl

theorem flat_enc : ∀ ss : List Th, (ss.map encT).flatMap (fun v => v.cells.toList) = ss.flatMap cellsT
  | [] => rfl
  | x :: ss => by
    simp only [List.map_cons, List.flatMap_cons, encT_cells, flat_enc ss]

theorem collects : Go.Det.Collects Tryz.prog 279 281 5 thingB where
  pos := by omega
  ok := by
    intro v h
    obtain ⟨y, rfl⟩ := thingB_enc h
    exact ⟨rfl, rfl⟩
  nil := fun Bm w hBm hm => by
    refine (callsIn_wide (n := 5)).1 ?_
    refine (collectT_in Fence.wide 5 trivial trivial rfl (by omega) 281 _ trivial (enters_of Tryz.func281 (by kernel_rfl) rfl) _ 0 (Nat.zero_le _) (by omega) w (keysT_gives_nil Fence.wide 3 trivial rfl Bm w hBm hm)).mono ?_
    rintro e w' ⟨v, ss, rfl, rfl, hrow, hnil, hb⟩
    obtain rfl := hnil.2 rfl
    exact ⟨rfl, hb⟩
  map := fun Bm b es clock w hBm hm hb hold hnd hsz hok => by
    refine (callsIn_wide (n := 5)).1 ?_
    refine (collectT_in Fence.wide 5 trivial trivial rfl (by omega) 281 _ trivial (enters_of Tryz.func281 (by kernel_rfl) rfl) _ es.size (Nat.le_trans hsz (by decide)) (by omega) w
      (keysT_gives Fence.wide 3 trivial rfl (by omega) Bm b es clock hold hnd (fun x hx => thingB_enc (hok x hx)) w hBm hm hb)).mono ?_
    rintro e w' ⟨v, ss, rfl, hS, hrow, hnil, hbl⟩
    exact ⟨v, ss.map encT, _, rfl, hS, by rw [List.length_map, flat_enc]; exact hrow, by rw [hnil]; simp, hbl⟩

end Go.Proofs.YtpclafidblbicaaGreatDoor
