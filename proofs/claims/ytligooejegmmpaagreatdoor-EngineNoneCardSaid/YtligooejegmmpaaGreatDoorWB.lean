/-
  A closed run in pieces: 1 to 4.
-/
import Derived.Test.YtligooejegmmpaaGreatDoorWA
namespace Go.Proofs.YtligooejegmmpaaGreatDoor
open Go Go.Det
theorem w_cut0 : cutAt Tryz.prog X2 100000 (wHead (wCode 0)) 119 [] [] (ofArgs [] 0 .nil) Go.Det.start = some (wS1, 0, wH1) := by kernel_rfl
theorem w_cut1 : cutAt Tryz.prog X2 100000 (wHead (wCode 1)) 119 [1, 2] [0, 1, 2, 3, 4, 5, 6, 7, 8, 9, 10, 11, 12, 13, 14, 15, 16, 17, 18, 19, 20, 21] (slotsOf 119 wS1) (stOf 0 wH1) = some (wS2, 22, wH2) := by kernel_rfl
theorem w_cut2 : cutAt Tryz.prog X2 100000 (wHead (wCode 2)) 119 [1] [0, 1, 2, 3, 4, 5, 6, 7, 8, 9, 10, 11, 12, 13, 14, 15, 16, 17, 18, 19, 20, 21] (slotsOf 119 wS2) (stOf 22 wH2) = some (wS3, 22, wH3) := by kernel_rfl
theorem w_cut3 : cutAt Tryz.prog X2 100000 (wHead (wCode 3)) 119 [1, 3] [0, 1, 2, 3, 4, 5, 6, 7, 8, 9, 10, 11, 12, 13, 14, 15, 16, 17, 18, 19, 20, 21, 86, 231, 232, 233, 263, 265, 308, 406, 410, 411] (slotsOf 119 wS3) (stOf 22 wH3) = some (wS4, 412, wH4) := by kernel_rfl
end Go.Proofs.YtligooejegmmpaaGreatDoor
