/-
  liverylaw26.EngineNone, called with anything: true.
-/
import Derived.Test.YtligooejegmmpaaGreatDoorWZ
namespace Go.Proofs.YtligooejegmmpaaGreatDoor
open Go Go.Det
open Go.RowKit (Below)

noncomputable def X3 : Go.Det.Ext := { X0 with fn := known [(16, constK (.bool true))] }
def Z4 (g : FuncId) : Bool := [15, 18, 50, 87, 142].any (Nat.beq g)
theorem ext3 : ExtOK Tryz.prog X3 := ext0.more fun p hp => by
  simp only [List.mem_cons, List.not_mem_nil, or_false] at hp
  subst hp
  exact const_ok rfl w_calls

def enArgs : Array Value := #[.agg #[.chan (some 2), .chan (some 3)], .agg #[.chan (some 2), .chan (some 2), .chan (some 2), .chan (some 2)]]
theorem en_run : (forkCall Tryz.prog X3 noY Z4 1000 64 4 enArgs Go.Det.start).map (·.1) = some (.bool true) := by kernel_rfl

theorem en_walk (c : Int) (s : ByteArray) (n0 n1 n2 n3 : Int) (w : World) :
    Calls Tryz.prog 4 #[.agg #[.int .i64 c, .string s], .agg #[.int .i64 n0, .int .i64 n1, .int .i64 n2, .int .i64 n3]] w fun e w' => e = .returned (.bool true) ∧ Below w.heap.size w w' :=
  fork_true mixed ext3 many_none en_run
    (.cons (agg_rel (.cons (unk_int c) (.cons (unk_str s) .nil))) (.cons (agg_rel (.cons (unk_int n0) (.cons (unk_int n1) (.cons (unk_int n2) (.cons (unk_int n3) .nil))))) .nil)) rfl w

end Go.Proofs.YtligooejegmmpaaGreatDoor
