/-
  A closed run in pieces: 13 to 14.
-/
import Derived.Test.YtligooejegmmpaaGreatDoorWA
namespace Go.Proofs.YtligooejegmmpaaGreatDoor
open Go Go.Det
theorem w_cut12 : cutAt Tryz.prog X2 100000 (wHead (wCode 12)) 119 [1, 3, 4, 5, 6, 7, 8] [0, 1, 2, 3, 4, 5, 6, 7, 8, 9, 10, 11, 12, 13, 14, 15, 16, 17, 18, 19, 20, 21, 231, 232, 233, 263, 265, 406, 411, 753, 948, 1136, 1201, 1393, 1460, 1555, 1573, 1798, 1799, 1806, 1843, 1876, 1892, 1904] (slotsOf 119 wS12) (stOf 1800 wH12) = some (wS13, 1905, wH13) := by kernel_rfl
theorem w_end : (endOf Tryz.prog X2 100000 Tryz.f16 (wCode 13) 119 (slotsOf 119 wS13) (stOf 1905 wH13)).map (·.1) = some (.bool true) := by kernel_rfl
end Go.Proofs.YtligooejegmmpaaGreatDoor
