/-
  A closed run in pieces: the whole.
-/
import Derived.Test.YtligooejegmmpaaGreatDoorWB
import Derived.Test.YtligooejegmmpaaGreatDoorWC
import Derived.Test.YtligooejegmmpaaGreatDoorWD
import Derived.Test.YtligooejegmmpaaGreatDoorWE
import Derived.Test.YtligooejegmmpaaGreatDoorWF
import Derived.Test.YtligooejegmmpaaGreatDoorWG
import Derived.Test.YtligooejegmmpaaGreatDoorOk
namespace Go.Proofs.YtligooejegmmpaaGreatDoor
open Go Go.Det
open Go.RowKit (Below)
theorem w_goes13 : Goes Tryz.prog Tryz.f16 (wCode 13) 119 (slotsOf 119 wS13) (stOf 1905 wH13) (.bool true) := Goes.fin mixed ext2 w_end rfl
theorem w_goes12 : Goes Tryz.prog Tryz.f16 (wCode 12) 119 (slotsOf 119 wS12) (stOf 1800 wH12) (.bool true) := by
  rw [w_seq12]
  exact Goes.cut mixed ext2 w_cut12 w_goes13
theorem w_goes11 : Goes Tryz.prog Tryz.f16 (wCode 11) 119 (slotsOf 119 wS11) (stOf 1574 wH11) (.bool true) := by
  rw [w_seq11]
  exact Goes.cut mixed ext2 w_cut11 w_goes12
theorem w_goes10 : Goes Tryz.prog Tryz.f16 (wCode 10) 119 (slotsOf 119 wS10) (stOf 1465 wH10) (.bool true) := by
  rw [w_seq10]
  exact Goes.cut mixed ext2 w_cut10 w_goes11
theorem w_goes9 : Goes Tryz.prog Tryz.f16 (wCode 9) 119 (slotsOf 119 wS9) (stOf 1206 wH9) (.bool true) := by
  rw [w_seq9]
  exact Goes.cut mixed ext2 w_cut9 w_goes10
theorem w_goes8 : Goes Tryz.prog Tryz.f16 (wCode 8) 119 (slotsOf 119 wS8) (stOf 949 wH8) (.bool true) := by
  rw [w_seq8]
  exact Goes.cut mixed ext2 w_cut8 w_goes9
theorem w_goes7 : Goes Tryz.prog Tryz.f16 (wCode 7) 119 (slotsOf 119 wS7) (stOf 754 wH7) (.bool true) := by
  rw [w_seq7]
  exact Goes.cut mixed ext2 w_cut7 w_goes8
theorem w_goes6 : Goes Tryz.prog Tryz.f16 (wCode 6) 119 (slotsOf 119 wS6) (stOf 557 wH6) (.bool true) := by
  rw [w_seq6]
  exact Goes.cut mixed ext2 w_cut6 w_goes7
theorem w_goes5 : Goes Tryz.prog Tryz.f16 (wCode 5) 119 (slotsOf 119 wS5) (stOf 483 wH5) (.bool true) := by
  rw [w_seq5]
  exact Goes.cut mixed ext2 w_cut5 w_goes6
theorem w_goes4 : Goes Tryz.prog Tryz.f16 (wCode 4) 119 (slotsOf 119 wS4) (stOf 412 wH4) (.bool true) := by
  rw [w_seq4]
  exact Goes.cut mixed ext2 w_cut4 w_goes5
theorem w_goes3 : Goes Tryz.prog Tryz.f16 (wCode 3) 119 (slotsOf 119 wS3) (stOf 22 wH3) (.bool true) := by
  rw [w_seq3]
  exact Goes.cut mixed ext2 w_cut3 w_goes4
theorem w_goes2 : Goes Tryz.prog Tryz.f16 (wCode 2) 119 (slotsOf 119 wS2) (stOf 22 wH2) (.bool true) := by
  rw [w_seq2]
  exact Goes.cut mixed ext2 w_cut2 w_goes3
theorem w_goes1 : Goes Tryz.prog Tryz.f16 (wCode 1) 119 (slotsOf 119 wS1) (stOf 0 wH1) (.bool true) := by
  rw [w_seq1]
  exact Goes.cut mixed ext2 w_cut1 w_goes2
theorem w_goes0 : Goes Tryz.prog Tryz.f16 (wCode 0) 119 (ofArgs [] 0 .nil) Go.Det.start (.bool true) := by
  rw [w_seq0]
  exact Goes.cut mixed ext2 w_cut0 w_goes1
theorem w_calls (w : World) : Calls Tryz.prog 16 #[] w fun e w' => e = .returned (.bool true) ∧ Below w.heap.size w w' :=
  Goes.calls (args := #[]) Tryz.func16 w_body (by rw [Tryz.ntmps16]; decide) (by rw [Tryz.ntmps16]; decide) .nil (by rw [Tryz.ntmps16]; exact w_goes0) w
end Go.Proofs.YtligooejegmmpaaGreatDoor
