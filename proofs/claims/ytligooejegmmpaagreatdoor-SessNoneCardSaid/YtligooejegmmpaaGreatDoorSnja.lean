/-
  Closed facts of the row of liverylaw25.SessNone: the first.
-/
import Derived.Test.YtligooejegmmpaaGreatDoorRows
import Derived.JoinedOf
import Derived.KernelRfl
namespace Go.Proofs.YtligooejegmmpaaGreatDoor.sessNone
open Go Go.Proofs.YtligooejegmmpaaGreatDoor
theorem c1 : (Rows.sessNoneRow.wf (OpenSpec.ofChange Rows.sessNoneSpec)) = true := by kernel_rfl
theorem c2 : (laidOutB Tryz.prog) = true := by kernel_rfl
theorem c3 : (mapsRowed Tryz.prog) = true := by kernel_rfl
theorem c4 : (Tryz.f3.params.all (Tryz.prog.readableRec ·)) = true := by kernel_rfl
theorem c5 : (namedTie Tryz.prog Rows.sessNoneRow.named Rows.sessNoneSpec.vars) = true := by kernel_rfl
theorem c6 : ((Rows.sessNoneRow.stops == [])) = true := by kernel_rfl
theorem c7 : ((Tryz.prog.stops == [])) = true := by kernel_rfl
theorem c8 : ((Rows.sessNoneRow.knobs == [])) = true := by kernel_rfl
theorem c9 : ((Tryz.prog.stopKnobs == [])) = true := by kernel_rfl
end Go.Proofs.YtligooejegmmpaaGreatDoor.sessNone
