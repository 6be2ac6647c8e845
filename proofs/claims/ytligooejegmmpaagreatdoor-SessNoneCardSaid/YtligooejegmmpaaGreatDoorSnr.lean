/-
  The closed runs of liverylaw25.SessNone, by the evaluator.
-/
import Derived.Test.YtligooejegmmpaaGreatDoorOk
import Derived.Test.YtligooejegmmpaaGreatDoorDetM
namespace Go.Proofs.YtligooejegmmpaaGreatDoor
open Go Go.Det
open Go.RowKit (Below)

theorem wakes25_run : (evalCall Tryz.prog X2 100000 6 #[] Go.Det.start).map (·.1) = some (.bool true) := by kernel_rfl
noncomputable def X5 : Go.Det.Ext := { X0 with fn := known [(6, constK (.bool true))] }
theorem wakes25 (w : World) : Calls Tryz.prog 6 #[] w fun e w' => e = .returned (.bool true) ∧ Below w.heap.size w w' := run_true mixed ext2 wakes25_run rfl w
theorem ext5 : ExtOK Tryz.prog X5 := ext0.more fun p hp => by
  simp only [List.mem_cons, List.not_mem_nil, or_false] at hp
  subst hp
  exact const_ok rfl wakes25

noncomputable def snHead0 : Code := match Tryz.f3.body with | some (.seq a _) => a | _ => .skip
noncomputable def snHead1 : Code := match Tryz.f3.body with | some (.seq _ (.seq a _)) => a | _ => .skip
noncomputable def snRest : Code := match Tryz.f3.body with | some (.seq _ (.seq _ a)) => a | _ => .skip
theorem sn_body : Tryz.f3.body = some (.seq snHead0 (.seq snHead1 snRest)) := by kernel_rfl

def snSlots : List (Nat × Value) := [(1, .pointer (some ⟨0, 0, none⟩))]
def snObjs : List (Nat × Obj) := [(0, .cells (Array.replicate 16 (.chan (some 0))) 28 (1, 0))]
theorem sn_end : (endOf Tryz.prog X5 100000 Tryz.f3 snRest 90 (slotsOf 90 snSlots) (stOf 1 snObjs)).map (·.1) = some (.bool true) := by kernel_rfl
theorem sn_goes : Goes Tryz.prog Tryz.f3 snRest 90 (slotsOf 90 snSlots) (stOf 1 snObjs) (.bool true) := Goes.fin mixed ext5 sn_end rfl

end Go.Proofs.YtligooejegmmpaaGreatDoor
