/-
  Closed facts of the row of liverylaw24.BuildNone: the others, and all of them.
-/
import Derived.Test.YtpclafidblbicaaGreatDoorRows
import Derived.JoinedOf
import Derived.KernelRfl
import Derived.Test.YtpclafidblbicaaGreatDoorBnja
import Derived.Test.YtpclafidblbicaaGreatDoorBnjb
import Derived.Test.YtpclafidblbicaaGreatDoorBnjc
namespace Go.Proofs.YtpclafidblbicaaGreatDoor.buildNone
open Go Go.Proofs.YtpclafidblbicaaGreatDoor
theorem c14 : ((Rows.buildNoneRow.maps == (Tryz.f3.params.toList ++ Rows.buildNoneSpec.plain.varTypes Tryz.prog).any (Tryz.prog.mapsRec ·))) = true := by kernel_rfl
theorem c15 : ((Rows.buildNoneRow.ifaces == (Tryz.f3.params.toList ++ Rows.buildNoneSpec.plain.varTypes Tryz.prog).any (Tryz.prog.ifacesRec ·))) = true := by kernel_rfl
theorem c16 : ((Rows.buildNoneRow.mapsOut == Tryz.prog.mapsAmong Tryz.f3.resultTypes.toList)) = true := by kernel_rfl
theorem c17 : ((Rows.buildNoneRow.loops == (Tryz.f3.params.toList ++ Rows.buildNoneSpec.plain.varTypes Tryz.prog).any (Tryz.prog.loopsFrom ·))) = true := by kernel_rfl
theorem c18 : ((Rows.buildNoneRow.wideKeys == (Tryz.f3.params.toList ++ Rows.buildNoneSpec.plain.varTypes Tryz.prog ++ Tryz.f3.resultTypes.toList).any (Tryz.prog.wideKeysFrom ·))) = true := by kernel_rfl
theorem c19 : (Rows.buildNoneSpec.vars.all (Tryz.prog.varReadable ·)) = true := by kernel_rfl
theorem c20 : (Tryz.f3.resultTypes.all (fun t => Tryz.prog.readableRec t && decide (t < Tryz.prog.types.size))) = true := by kernel_rfl
theorem c21 : ((Rows.buildNoneRow.ifacesOut == Tryz.f3.resultTypes.toList.any (Tryz.prog.ifacesRec ·))) = true := by kernel_rfl
theorem c22 : ((Rows.buildNoneRow.loopsOut == Tryz.f3.resultTypes.toList.any (Tryz.prog.loopsFrom ·))) = true := by kernel_rfl
theorem c23 : ((Rows.buildNoneRow.plainKeys == Tryz.prog.plainKeys)) = true := by kernel_rfl
theorem c24 : (Rows.buildNoneRow.shortTexts.isNone) = true := by kernel_rfl
theorem c25 : (Tryz.prog.stopsHeard) = true := by kernel_rfl
theorem c26 : (Tryz.prog.mayEnter) = true := by kernel_rfl
theorem c27 : ((Rows.buildNoneRow.lifted == Tryz.prog.liftsFinal)) = true := by kernel_rfl
theorem c28 : ((Tryz.prog.make == some Rows.buildNoneRow.make)) = true := by kernel_rfl
theorem c29 : ((Rows.buildNoneRow.kinds == (if Rows.buildNoneRow.domain.isEmpty then [] else Tryz.f3.params.toList.map fun t => match Tryz.prog.underlying t with | some (.int k) => some k | _ => none))) = true := by kernel_rfl
theorem c30 : ((Rows.buildNoneRow.pinned == Rows.buildNoneRow.pinnedBy)) = true := by kernel_rfl
theorem c31 : ((Rows.buildNoneRow.veiled == (Tryz.f3.params.toList ++ Rows.buildNoneSpec.plain.varTypes Tryz.prog ++ Tryz.f3.resultTypes.toList).any (Tryz.prog.veiledRec ·))) = true := by kernel_rfl
theorem c32 : (Rows.buildNoneRow.veiledFits Tryz.prog Tryz.f3.params.toList (Tryz.f3.params.toList ++ Rows.buildNoneSpec.plain.varTypes Tryz.prog ++ Tryz.f3.resultTypes.toList)) = true := by kernel_rfl

theorem andI {a b : Bool} (h : a = true) (k : b = true) : (a && b) = true := by rw [h, k]; rfl
set_option maxRecDepth 100000 in
theorem closed : joinedFacts Tryz.prog 3 Tryz.f3 Rows.buildNoneSpec Rows.buildNoneRow = true := by
  unfold joinedFacts
  exact (andI (andI (andI (andI (andI (andI (andI (andI (andI (andI (andI (andI (andI (andI (andI (andI (andI (andI (andI (andI (andI (andI (andI (andI (andI (andI (andI (andI (andI (andI (andI c1 c2) c3) c4) c5) c6) c7) c8) c9) c10) c11) c12) c13) c14) c15) c16) c17) c18) c19) c20) c21) c22) c23) c24) c25) c26) c27) c28) c29) c30) c31) c32)
end Go.Proofs.YtpclafidblbicaaGreatDoor.buildNone
