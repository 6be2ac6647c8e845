/-
  Closed facts of the row of liverylaw24.BuildNone: the first.
-/
import Derived.Test.YtpclafidblbicaaGreatDoorRows
import Derived.JoinedOf
import Derived.KernelRfl
namespace Go.Proofs.YtpclafidblbicaaGreatDoor.buildNone
open Go Go.Proofs.YtpclafidblbicaaGreatDoor
theorem c1 : (Rows.buildNoneRow.wf (OpenSpec.ofChange Rows.buildNoneSpec)) = true := by kernel_rfl
theorem c2 : (laidOutB Tryz.prog) = true := by kernel_rfl
theorem c3 : (mapsRowed Tryz.prog) = true := by kernel_rfl
theorem c4 : (Tryz.f3.params.all (Tryz.prog.readableRec ·)) = true := by kernel_rfl
theorem c5 : (namedTie Tryz.prog Rows.buildNoneRow.named Rows.buildNoneSpec.vars) = true := by kernel_rfl
theorem c6 : ((Rows.buildNoneRow.stops == [])) = true := by kernel_rfl
theorem c7 : ((Tryz.prog.stops == [])) = true := by kernel_rfl
theorem c8 : ((Rows.buildNoneRow.knobs == [])) = true := by kernel_rfl
theorem c9 : ((Tryz.prog.stopKnobs == [])) = true := by kernel_rfl
end Go.Proofs.YtpclafidblbicaaGreatDoor.buildNone
