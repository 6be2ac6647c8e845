/-
  Closed facts of the row of liverylaw26.EngineNone: what recurses, and which variables are named.
-/
import Derived.Test.YtligooejegmmpaaGreatDoorRows
import Derived.JoinedOf
import Derived.KernelRfl
namespace Go.Proofs.YtligooejegmmpaaGreatDoor.engineNone
open Go Go.Proofs.YtligooejegmmpaaGreatDoor
theorem c12 : ((Rows.engineNoneRow.recurses == Tryz.prog.recurses 4)) = true := by kernel_rfl
theorem c13 : ((Rows.engineNoneRow.named == Tryz.prog.varsNamed 4)) = true := by kernel_rfl
end Go.Proofs.YtligooejegmmpaaGreatDoor.engineNone
