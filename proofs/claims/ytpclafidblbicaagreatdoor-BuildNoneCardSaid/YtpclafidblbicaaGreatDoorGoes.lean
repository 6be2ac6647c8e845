/-
  No go statement stands in the whole translation.
-/
import Derived.Test.YtpclafidblbicaaGreatDoorRows
import Derived.KernelRfl
import GoSem.ClaimGoes
namespace Go.Proofs.YtpclafidblbicaaGreatDoor
open Go

theorem goes_false {P : Program} (h : (P.funcs.toList.all fun fn => !fn.goes) = true) (c : OpenClaim) (hs : c.start = .entering) : c.goesBy P = false := by
  have one : ∀ g : Nat, ((P.funcs[g]?).any Func.goes) = false := by
    intro g
    cases hg : P.funcs[g]? with
    | none => rfl
    | some fn =>
      have := List.all_eq_true.1 h fn (List.mem_of_getElem? (by simpa using hg))
      simpa using this
  have all : P.funcs.any Func.goes = false := by
    rw [← Array.any_toList, List.any_eq_false]
    intro fn hf
    have := List.all_eq_true.1 h fn hf
    simpa using this
  have each : ∀ f, P.goes f = false := by
    intro f
    unfold Program.goes
    have : ((P.closure f).any fun g => (P.funcs[g]?).any Func.goes) = false := by
      rw [List.any_eq_false]
      intro g _
      rw [one g]
      simp
    rw [this, all]
    simp
  unfold OpenClaim.goesBy Program.goesAt Program.goesFrom
  rw [hs]
  cases P.funcNamed c.func with
  | none => rfl
  | some f => simp [each f]

theorem no_go : (Tryz.prog.funcs.toList.all fun fn => !fn.goes) = true := by kernel_rfl

end Go.Proofs.YtpclafidblbicaaGreatDoor
