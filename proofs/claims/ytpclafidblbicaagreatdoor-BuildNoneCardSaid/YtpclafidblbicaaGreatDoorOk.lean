/-
  What is known of the functions on the road is so.
-/
import Derived.Test.YtpclafidblbicaaGreatDoorRun
import Derived.Test.YtpclafidblbicaaGreatDoorSrt
namespace Go.Proofs.YtpclafidblbicaaGreatDoor
open Go Go.Det

theorem keyI1 : KeyOK Tryz.prog 3 intK _root_.Go.intOf := intK_ok Tryz.underlying3
theorem keyI2 : KeyOK Tryz.prog 3 intK _root_.Go.intOf := intK_ok Tryz.underlying3
theorem keyI3 : KeyOK Tryz.prog 3 intK _root_.Go.intOf := intK_ok Tryz.underlying3
theorem keyS1 : KeyOK Tryz.prog 9 strK _root_.Go.strOf := strK_ok Tryz.underlying9

theorem known_I : KnownOK Tryz.prog 195 (sortedsK [235, 268, 268] intK) := sorteds_ok fun kg hk => by
  simp only [List.mem_cons, List.not_mem_nil, or_false] at hk
  rcases hk with rfl | rfl | rfl
  · exact ⟨_, _, keyI1, Tryz.sk1⟩
  · exact ⟨_, _, keyI2, Tryz.sk2⟩
  · exact ⟨_, _, keyI3, Tryz.sk3⟩

theorem known_S : KnownOK Tryz.prog 242 (sortedsK [276] strK) := sorteds_ok fun kg hk => by
  simp only [List.mem_cons, List.not_mem_nil, or_false] at hk
  rcases hk with rfl
  exact ⟨_, _, keyS1, Tryz.sk4⟩

theorem known_sorts : ∀ p ∈ sorts0, KnownOK Tryz.prog p.1 p.2 := by
  intro p hp
  simp only [sorts0, List.mem_cons, List.not_mem_nil, or_false] at hp
  rcases hp with rfl | rfl
  · exact known_I
  · exact known_S

theorem ext1 : ExtOK Tryz.prog X1 := ext0.more known_sorts
theorem manyY1 : ManyOK Tryz.prog Y1 := many_collect collects

theorem known_forks : ∀ p ∈ forks0, KnownOK Tryz.prog p.1 p.2 := by
  intro p hp
  simp only [forks0, List.mem_cons, List.not_mem_nil, or_false] at hp
  rcases hp with rfl
  · exact fork_ok mixed ext1 manyY1 (by kernel_rfl)
  all_goals exact fork_ok mixed ext1 many_none (by kernel_rfl)

theorem ext2 : ExtOK Tryz.prog X2 := ext0.more fun p hp => by
  rcases List.mem_append.1 hp with h | h
  · exact known_sorts p h
  · exact known_forks p h

end Go.Proofs.YtpclafidblbicaaGreatDoor
