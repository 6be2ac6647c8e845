/-
  Closed facts of the row of liverylaw25.SessNone: what recurses, and which variables are named.
-/
import Derived.Test.YtligooejegmmpaaGreatDoorRows
import Derived.JoinedOf
import Derived.KernelRfl
namespace Go.Proofs.YtligooejegmmpaaGreatDoor.sessNone
open Go Go.Proofs.YtligooejegmmpaaGreatDoor
theorem c12 : ((Rows.sessNoneRow.recurses == Tryz.prog.recurses 3)) = true := by kernel_rfl
theorem c13 : ((Rows.sessNoneRow.named == Tryz.prog.varsNamed 3)) = true := by kernel_rfl
end Go.Proofs.YtligooejegmmpaaGreatDoor.sessNone
