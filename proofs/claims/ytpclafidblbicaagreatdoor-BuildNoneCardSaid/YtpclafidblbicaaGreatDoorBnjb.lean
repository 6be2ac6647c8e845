/-
  Closed facts of the row of liverylaw24.BuildNone: what it calls in place, and unfollowed.
-/
import Derived.Test.YtpclafidblbicaaGreatDoorRows
import Derived.JoinedOf
import Derived.KernelRfl
namespace Go.Proofs.YtpclafidblbicaaGreatDoor.buildNone
open Go Go.Proofs.YtpclafidblbicaaGreatDoor
theorem c10 : ((Rows.buildNoneRow.inPlace == Tryz.prog.inPlace 3)) = true := by kernel_rfl
theorem c11 : ((Rows.buildNoneRow.unfollowed == Tryz.prog.unfollowed 3)) = true := by kernel_rfl
end Go.Proofs.YtpclafidblbicaaGreatDoor.buildNone
