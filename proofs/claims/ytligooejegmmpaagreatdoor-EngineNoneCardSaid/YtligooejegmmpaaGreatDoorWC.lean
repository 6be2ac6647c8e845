/-
  A closed run in pieces: 5 to 8.
-/
import Derived.Test.YtligooejegmmpaaGreatDoorWA
namespace Go.Proofs.YtligooejegmmpaaGreatDoor
open Go Go.Det
theorem w_cut4 : cutAt Tryz.prog X2 100000 (wHead (wCode 4)) 119 [1, 3] [0, 1, 2, 3, 4, 5, 6, 7, 8, 9, 10, 11, 12, 13, 14, 15, 16, 17, 18, 19, 20, 21, 231, 232, 233, 263, 265, 308, 406, 411, 482] (slotsOf 119 wS4) (stOf 412 wH4) = some (wS5, 483, wH5) := by kernel_rfl
theorem w_cut5 : cutAt Tryz.prog X2 100000 (wHead (wCode 5)) 119 [1, 3] [0, 1, 2, 3, 4, 5, 6, 7, 8, 9, 10, 11, 12, 13, 14, 15, 16, 17, 18, 19, 20, 21, 231, 232, 233, 263, 265, 308, 406, 411, 556] (slotsOf 119 wS5) (stOf 483 wH5) = some (wS6, 557, wH6) := by kernel_rfl
theorem w_cut6 : cutAt Tryz.prog X2 100000 (wHead (wCode 6)) 119 [1, 3, 4] [0, 1, 2, 3, 4, 5, 6, 7, 8, 9, 10, 11, 12, 13, 14, 15, 16, 17, 18, 19, 20, 21, 231, 232, 233, 263, 265, 308, 406, 411, 628, 629, 664, 752, 753] (slotsOf 119 wS6) (stOf 557 wH6) = some (wS7, 754, wH7) := by kernel_rfl
theorem w_cut7 : cutAt Tryz.prog X2 100000 (wHead (wCode 7)) 119 [1, 3, 4, 5] [0, 1, 2, 3, 4, 5, 6, 7, 8, 9, 10, 11, 12, 13, 14, 15, 16, 17, 18, 19, 20, 21, 231, 232, 233, 263, 265, 308, 406, 411, 628, 629, 664, 753, 859, 947, 948] (slotsOf 119 wS7) (stOf 754 wH7) = some (wS8, 949, wH8) := by kernel_rfl
end Go.Proofs.YtligooejegmmpaaGreatDoor
