/-
  What a statement's row and columns are; liverykeep.LargeStmt: where it tells false the row and the columns are short.
-/
import Derived.Test.YtpclafidblbicaaGreatDoorLg
import Derived.Tactics2
import Derived.Sort.AtCall
import Derived.DataReads
namespace Go.Proofs.YtpclafidblbicaaGreatDoor
open Go
open Go.RowKit (Below)

/-- cells that are there -/
def CellsOk (W : World) (a : Addr) (n : Nat) : Prop := ∀ j, j < n → ∃ u, W.cell? (a.add j) = some u

theorem CellsOk.later {W w : World} {a : Addr} {n : Nat} (h : CellsOk W a n) (hb : Below W.heap.size W w) : CellsOk w a n := fun j hj => by
  obtain ⟨u, hu⟩ := h j hj
  exact ⟨u, (hb.cell (p := a.add j) (World.block_lt_of_cell? _ _ hu)).trans hu⟩

theorem add_add (a : Addr) (m n : Nat) : (a.add m).add n = a.add (m + n) := by
  unfold Addr.add
  by_cases hm : m = 0
  · subst hm; simp
  · by_cases hn : n = 0
    · subst hn; simp
    · rw [if_neg hm, if_neg hn, if_neg (by omega)]
      simp [Nat.add_assoc]

theorem cells_of {W : World} {a : Addr} {len size base : Nat} (hs : 0 < size) (h : ∀ i, i < len → ∃ cs', W.cells? base (a.add (i * size)) size = some cs') : CellsOk W a (len * size) := by
  intro j hj
  have hi : j / size < len := Nat.div_lt_of_lt_mul (by rw [Nat.mul_comm]; exact hj)
  obtain ⟨cs', hc⟩ := h _ hi
  obtain ⟨_, hcl, hat⟩ := World.cells?_some hc
  have hr : j % size < size := Nat.mod_lt _ hs
  have := hat (j % size) hr
  rw [add_add, Nat.div_add_mod'] at this
  exact ⟨_, this.trans (List.getElem?_eq_getElem (by omega))⟩

/-- a row of values, or none -/
def RowOf (W : World) (r : Value) : Prop := r = .slice none 0 0 ∨ ∃ a len cap, r = .slice (some a) len cap ∧ len ≤ maxLen ∧ (0 < len → a.block < W.heap.size) ∧ (∀ i, i < len → ∃ k m fl s, ValAt W (a.add (i * 4)) k m fl s) ∧ CellsOk W a (len * 4)
def ColsOf (W : World) (r : Value) : Prop := r = .slice none 0 0 ∨ ∃ a len cap, r = .slice (some a) len cap ∧ len ≤ maxLen ∧ (0 < len → a.block < W.heap.size) ∧ (∀ i, i < len → ∃ nm k m fl s, ColAt W (a.add (i * 7)) nm k m fl s) ∧ CellsOk W a (len * 7)

theorem large_calls (k : Int) (t n c st : ByteArray) (vk vm : Int) (vf : Nat) (vs : ByteArray) (wk wm : Int) (wf : Nat) (ws : ByteArray) (r l : Value) (f : Bool) (W w : World) (hb : Below W.heap.size W w) (hr : RowOf W r) (hl : ColsOf W l) :
    Calls Tryz.prog 4 #[stmtV k t n c st vk vm vf vs wk wm wf ws r l f] w fun e w' => SmallS r l e ∧ Below w.heap.size w w' := by
  refine (callsIn_wide (n := 5)).1 (largeStmt_in Fence.wide 5 trivial trivial trivial trivial rfl (by omega) k t n c st vk vm vf vs wk wm wf ws r l f w ?_ ?_)
  · intro w1 hb1
    have hW : Below W.heap.size W w1 := hb.trans (hb1.mono hb.size)
    rcases hr with rfl | ⟨a, len, cap, rfl, h1, h2, h3, _⟩
    · exact largeRow_nil Fence.wide 4 trivial rfl w1
    · refine largeRow_in Fence.wide 4 trivial trivial rfl (by omega) a len cap h1 w1 (fun h => Nat.lt_of_lt_of_le (h2 h) hW.size) fun i hi => ?_
      obtain ⟨k, m, fl, s, h⟩ := h3 i hi
      exact ⟨k, m, fl, s, h.later hW (by rw [add_block]; exact h2 (by omega))⟩
  · intro w1 hb1
    have hW : Below W.heap.size W w1 := hb.trans (hb1.mono hb.size)
    rcases hl with rfl | ⟨a, len, cap, rfl, h1, h2, h3, _⟩
    · exact largeColumns_nil Fence.wide 4 trivial rfl w1
    · refine largeColumns_in Fence.wide 4 trivial trivial rfl (by omega) a len cap h1 w1 (fun h => Nat.lt_of_lt_of_le (h2 h) hW.size) fun i hi => ?_
      obtain ⟨nm, k, m, fl, s, h⟩ := h3 i hi
      refine ⟨nm, k, m, fl, s, ⟨(hW.cell (p := a.add (i * 7)) (by rw [add_block]; exact h2 (by omega))).trans h.name, h.dflt.later hW (by show (a.add (i * 7)).block < _; rw [add_block]; exact h2 (by omega))⟩⟩

end Go.Proofs.YtpclafidblbicaaGreatDoor
