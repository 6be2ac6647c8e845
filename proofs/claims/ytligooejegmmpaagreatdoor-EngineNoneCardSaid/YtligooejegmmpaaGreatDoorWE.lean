/-
  A closed run in pieces: 10 to 10.
-/
import Derived.Test.YtligooejegmmpaaGreatDoorWA
namespace Go.Proofs.YtligooejegmmpaaGreatDoor
open Go Go.Det
theorem w_cut9 : cutAt Tryz.prog X2 100000 (wHead (wCode 9)) 119 [1, 3, 4, 5] [0, 1, 2, 3, 4, 5, 6, 7, 8, 9, 10, 11, 12, 13, 14, 15, 16, 17, 18, 19, 20, 21, 231, 232, 233, 263, 265, 308, 406, 411, 628, 629, 664, 753, 859, 948, 990, 1136, 1201, 1247, 1393, 1460, 1464] (slotsOf 119 wS9) (stOf 1206 wH9) = some (wS10, 1465, wH10) := by kernel_rfl
end Go.Proofs.YtligooejegmmpaaGreatDoor
