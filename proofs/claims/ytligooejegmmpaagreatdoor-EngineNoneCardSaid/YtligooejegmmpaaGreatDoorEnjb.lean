/-
  Closed facts of the row of liverylaw26.EngineNone: what it calls in place, and unfollowed.
-/
import Derived.Test.YtligooejegmmpaaGreatDoorRows
import Derived.JoinedOf
import Derived.KernelRfl
namespace Go.Proofs.YtligooejegmmpaaGreatDoor.engineNone
open Go Go.Proofs.YtligooejegmmpaaGreatDoor
theorem c10 : ((Rows.engineNoneRow.inPlace == Tryz.prog.inPlace 4)) = true := by kernel_rfl
theorem c11 : ((Rows.engineNoneRow.unfollowed == Tryz.prog.unfollowed 4)) = true := by kernel_rfl
end Go.Proofs.YtligooejegmmpaaGreatDoor.engineNone
