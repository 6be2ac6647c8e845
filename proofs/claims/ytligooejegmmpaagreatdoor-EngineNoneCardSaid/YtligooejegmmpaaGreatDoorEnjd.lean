/-
  Closed facts of the row of liverylaw26.EngineNone: the others, and all of them.
-/
import Derived.Test.YtligooejegmmpaaGreatDoorRows
import Derived.JoinedOf
import Derived.KernelRfl
import Derived.Test.YtligooejegmmpaaGreatDoorEnja
import Derived.Test.YtligooejegmmpaaGreatDoorEnjb
import Derived.Test.YtligooejegmmpaaGreatDoorEnjc
namespace Go.Proofs.YtligooejegmmpaaGreatDoor.engineNone
open Go Go.Proofs.YtligooejegmmpaaGreatDoor
theorem c14 : ((Rows.engineNoneRow.maps == (Tryz.f4.params.toList ++ Rows.engineNoneSpec.plain.varTypes Tryz.prog).any (Tryz.prog.mapsRec ·))) = true := by kernel_rfl
theorem c15 : ((Rows.engineNoneRow.ifaces == (Tryz.f4.params.toList ++ Rows.engineNoneSpec.plain.varTypes Tryz.prog).any (Tryz.prog.ifacesRec ·))) = true := by kernel_rfl
theorem c16 : ((Rows.engineNoneRow.mapsOut == Tryz.prog.mapsAmong Tryz.f4.resultTypes.toList)) = true := by kernel_rfl
theorem c17 : ((Rows.engineNoneRow.loops == (Tryz.f4.params.toList ++ Rows.engineNoneSpec.plain.varTypes Tryz.prog).any (Tryz.prog.loopsFrom ·))) = true := by kernel_rfl
theorem c18 : ((Rows.engineNoneRow.wideKeys == (Tryz.f4.params.toList ++ Rows.engineNoneSpec.plain.varTypes Tryz.prog ++ Tryz.f4.resultTypes.toList).any (Tryz.prog.wideKeysFrom ·))) = true := by kernel_rfl
theorem c19 : (Rows.engineNoneSpec.vars.all (Tryz.prog.varReadable ·)) = true := by kernel_rfl
theorem c20 : (Tryz.f4.resultTypes.all (fun t => Tryz.prog.readableRec t && decide (t < Tryz.prog.types.size))) = true := by kernel_rfl
theorem c21 : ((Rows.engineNoneRow.ifacesOut == Tryz.f4.resultTypes.toList.any (Tryz.prog.ifacesRec ·))) = true := by kernel_rfl
theorem c22 : ((Rows.engineNoneRow.loopsOut == Tryz.f4.resultTypes.toList.any (Tryz.prog.loopsFrom ·))) = true := by kernel_rfl
theorem c23 : ((Rows.engineNoneRow.plainKeys == Tryz.prog.plainKeys)) = true := by kernel_rfl
theorem c24 : (Rows.engineNoneRow.shortTexts.isNone) = true := by kernel_rfl
theorem c25 : (Tryz.prog.stopsHeard) = true := by kernel_rfl
theorem c26 : (Tryz.prog.mayEnter) = true := by kernel_rfl
theorem c27 : ((Rows.engineNoneRow.lifted == Tryz.prog.liftsFinal)) = true := by kernel_rfl
theorem c28 : ((Tryz.prog.make == some Rows.engineNoneRow.make)) = true := by kernel_rfl
theorem c29 : ((Rows.engineNoneRow.kinds == (if Rows.engineNoneRow.domain.isEmpty then [] else Tryz.f4.params.toList.map fun t => match Tryz.prog.underlying t with | some (.int k) => some k | _ => none))) = true := by kernel_rfl
theorem c30 : ((Rows.engineNoneRow.pinned == Rows.engineNoneRow.pinnedBy)) = true := by kernel_rfl
theorem c31 : ((Rows.engineNoneRow.veiled == (Tryz.f4.params.toList ++ Rows.engineNoneSpec.plain.varTypes Tryz.prog ++ Tryz.f4.resultTypes.toList).any (Tryz.prog.veiledRec ·))) = true := by kernel_rfl
theorem c32 : (Rows.engineNoneRow.veiledFits Tryz.prog Tryz.f4.params.toList (Tryz.f4.params.toList ++ Rows.engineNoneSpec.plain.varTypes Tryz.prog ++ Tryz.f4.resultTypes.toList)) = true := by kernel_rfl

theorem andI {a b : Bool} (h : a = true) (k : b = true) : (a && b) = true := by rw [h, k]; rfl
set_option maxRecDepth 100000 in
theorem closed : joinedFacts Tryz.prog 4 Tryz.f4 Rows.engineNoneSpec Rows.engineNoneRow = true := by
  unfold joinedFacts
  exact (andI (andI (andI (andI (andI (andI (andI (andI (andI (andI (andI (andI (andI (andI (andI (andI (andI (andI (andI (andI (andI (andI (andI (andI (andI (andI (andI (andI (andI (andI (andI c1 c2) c3) c4) c5) c6) c7) c8) c9) c10) c11) c12) c13) c14) c15) c16) c17) c18) c19) c20) c21) c22) c23) c24) c25) c26) c27) c28) c29) c30) c31) c32)
end Go.Proofs.YtligooejegmmpaaGreatDoor.engineNone
