/-
  Closed facts of the row of liverylaw24.BuildNone: what recurses, and which variables are named.
-/
import Derived.Test.YtpclafidblbicaaGreatDoorRows
import Derived.JoinedOf
import Derived.KernelRfl
namespace Go.Proofs.YtpclafidblbicaaGreatDoor.buildNone
open Go Go.Proofs.YtpclafidblbicaaGreatDoor
theorem c12 : ((Rows.buildNoneRow.recurses == Tryz.prog.recurses 3)) = true := by kernel_rfl
theorem c13 : ((Rows.buildNoneRow.named == Tryz.prog.varsNamed 3)) = true := by kernel_rfl
end Go.Proofs.YtpclafidblbicaaGreatDoor.buildNone
