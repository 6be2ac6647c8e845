/-
  A closed run in pieces: 11 to 12.
-/
import Derived.Test.YtligooejegmmpaaGreatDoorWA
namespace Go.Proofs.YtligooejegmmpaaGreatDoor
open Go Go.Det
theorem w_cut10 : cutAt Tryz.prog X2 100000 (wHead (wCode 10)) 119 [1, 3, 4, 5, 6] [0, 1, 2, 3, 4, 5, 6, 7, 8, 9, 10, 11, 12, 13, 14, 15, 16, 17, 18, 19, 20, 21, 231, 232, 233, 263, 265, 406, 411, 628, 629, 664, 753, 859, 948, 1136, 1201, 1247, 1393, 1460, 1555, 1572, 1573] (slotsOf 119 wS10) (stOf 1465 wH10) = some (wS11, 1574, wH11) := by kernel_rfl
theorem w_cut11 : cutAt Tryz.prog X2 100000 (wHead (wCode 11)) 119 [1, 3, 4, 5, 6, 7] [0, 1, 2, 3, 4, 5, 6, 7, 8, 9, 10, 11, 12, 13, 14, 15, 16, 17, 18, 19, 20, 21, 231, 232, 233, 263, 265, 406, 411, 753, 948, 1136, 1201, 1393, 1460, 1555, 1573, 1798, 1799] (slotsOf 119 wS11) (stOf 1574 wH11) = some (wS12, 1800, wH12) := by kernel_rfl
end Go.Proofs.YtligooejegmmpaaGreatDoor
