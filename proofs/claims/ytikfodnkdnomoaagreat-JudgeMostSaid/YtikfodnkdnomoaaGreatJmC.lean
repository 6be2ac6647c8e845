/-
  JudgeMost, run by the evaluator to its end at 5 to 9.
-/
import Derived.Test.YtikfodnkdnomoaaGreatJmA
namespace Go.Proofs.YtikfodnkdnomoaaGreat
open Go Go.Det
theorem jmEnd5 : jmEnd 5 = some (.bool true) := by kernel_rfl
theorem jmEnd6 : jmEnd 6 = some (.bool true) := by kernel_rfl
theorem jmEnd7 : jmEnd 7 = some (.bool true) := by kernel_rfl
theorem jmEnd8 : jmEnd 8 = some (.bool true) := by kernel_rfl
theorem jmEnd9 : jmEnd 9 = some (.bool true) := by kernel_rfl
end Go.Proofs.YtikfodnkdnomoaaGreat
