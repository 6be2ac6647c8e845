/-
  The functions of this seat that have no Go body, as the evaluator takes them.
-/
import Derived.Test.YtligooejegmmpaaGreatDoorRows
import Derived.Test.YtligooejegmmpaaGreatDoorDetZ
import Derived.Laws.Externs
import Derived.KernelRfl
import GoSem.Extern.MathFloatBits
import GoSem.Extern.BytealgCompare
namespace Go.Proofs.YtligooejegmmpaaGreatDoor
open Go Go.Det
def X0 : Go.Det.Ext := ⟨fun n =>
  match Nat.beq n 469 with
  | true => some Extern.BytealgCompare.compare
  | false =>
    match Nat.beq n 361 with
    | true => some Extern.MathFloatBits.float64bits
    | false =>
      match Nat.beq n 416 with
      | true => some Extern.MathFloatBits.float64frombits
      | false => none, fun _ => false, fun _ => none⟩

theorem mixed : Tryz.prog.follows .mixedOrders = true := by kernel_rfl
theorem nums : (Tryz.prog.funcs.toList.all fun fn => !(fn.name == "runtime.NumGoroutine")) = true := by kernel_rfl

theorem e1a : Extern.findNext Tryz.f469 = none := by kernel_rfl
theorem e1b : Extern.find Tryz.f469 = some Extern.BytealgCompare.compare := by kernel_rfl
theorem e2a : Extern.findNext Tryz.f361 = none := by kernel_rfl
theorem e2b : Extern.find Tryz.f361 = some Extern.MathFloatBits.float64bits := by kernel_rfl
theorem e3a : Extern.findNext Tryz.f416 = none := by kernel_rfl
theorem e3b : Extern.find Tryz.f416 = some Extern.MathFloatBits.float64frombits := by kernel_rfl

theorem ext0 : ExtOK Tryz.prog X0 where
  pure := by
    intro g h fn hf hb hp args w
    simp only [X0] at hp
    split at hp
    · rename_i hg
      have hg := Nat.eq_of_beq_eq_true hg
      subst hg
      rw [Tryz.func469] at hf
      cases hf
      cases hp
      exact run_callFunc_extern Tryz.func469 (by decide +kernel) (by kernel_rfl) e1a e1b args w
    · split at hp
      · rename_i hg
        have hg := Nat.eq_of_beq_eq_true hg
        subst hg
        rw [Tryz.func361] at hf
        cases hf
        cases hp
        exact run_callFunc_extern Tryz.func361 (by decide +kernel) (by kernel_rfl) e2a e2b args w
      · split at hp
        · rename_i hg
          have hg := Nat.eq_of_beq_eq_true hg
          subst hg
          rw [Tryz.func416] at hf
          cases hf
          cases hp
          exact run_callFunc_extern Tryz.func416 (by decide +kernel) (by kernel_rfl) e3a e3b args w
        · cases hp
  clone := by
    intro g fn hf hb hp args w
    cases hp
  fn := by
    intro g s fn hf hb hs
    cases hs
  num := by
    intro g fn hf _
    have h := nums
    rw [List.all_eq_true] at h
    have := h fn (List.mem_of_getElem? (by simpa using hf))
    simpa using this

end Go.Proofs.YtligooejegmmpaaGreatDoor
