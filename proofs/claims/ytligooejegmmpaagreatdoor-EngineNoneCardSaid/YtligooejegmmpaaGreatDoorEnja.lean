/-
  Closed facts of the row of liverylaw26.EngineNone: the first.
-/
import Derived.Test.YtligooejegmmpaaGreatDoorRows
import Derived.JoinedOf
import Derived.KernelRfl
namespace Go.Proofs.YtligooejegmmpaaGreatDoor.engineNone
open Go Go.Proofs.YtligooejegmmpaaGreatDoor
theorem c1 : (Rows.engineNoneRow.wf (OpenSpec.ofChange Rows.engineNoneSpec)) = true := by kernel_rfl
theorem c2 : (laidOutB Tryz.prog) = true := by kernel_rfl
theorem c3 : (mapsRowed Tryz.prog) = true := by kernel_rfl
theorem c4 : (Tryz.f4.params.all (Tryz.prog.readableRec ·)) = true := by kernel_rfl
theorem c5 : (namedTie Tryz.prog Rows.engineNoneRow.named Rows.engineNoneSpec.vars) = true := by kernel_rfl
theorem c6 : ((Rows.engineNoneRow.stops == [])) = true := by kernel_rfl
theorem c7 : ((Tryz.prog.stops == [])) = true := by kernel_rfl
theorem c8 : ((Rows.engineNoneRow.knobs == [])) = true := by kernel_rfl
theorem c9 : ((Tryz.prog.stopKnobs == [])) = true := by kernel_rfl
end Go.Proofs.YtligooejegmmpaaGreatDoor.engineNone
