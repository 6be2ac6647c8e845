/-
  Closed facts of the row of liverylaw25.SessNone: what it calls in place, and unfollowed.
-/
import Derived.Test.YtligooejegmmpaaGreatDoorRows
import Derived.JoinedOf
import Derived.KernelRfl
namespace Go.Proofs.YtligooejegmmpaaGreatDoor.sessNone
open Go Go.Proofs.YtligooejegmmpaaGreatDoor
theorem c10 : ((Rows.sessNoneRow.inPlace == Tryz.prog.inPlace 3)) = true := by kernel_rfl
theorem c11 : ((Rows.sessNoneRow.unfollowed == Tryz.prog.unfollowed 3)) = true := by kernel_rfl
end Go.Proofs.YtligooejegmmpaaGreatDoor.sessNone
