/-
  JudgeMost, run by the evaluator to its end at 0 to 4.
-/
import Derived.Test.YtikfodnkdnomoaaGreatJmA
namespace Go.Proofs.YtikfodnkdnomoaaGreat
open Go Go.Det
theorem jmEnd0 : jmEnd 0 = some (.bool true) := by kernel_rfl
theorem jmEnd1 : jmEnd 1 = some (.bool true) := by kernel_rfl
theorem jmEnd2 : jmEnd 2 = some (.bool true) := by kernel_rfl
theorem jmEnd3 : jmEnd 3 = some (.bool true) := by kernel_rfl
theorem jmEnd4 : jmEnd 4 = some (.bool true) := by kernel_rfl
end Go.Proofs.YtikfodnkdnomoaaGreat
