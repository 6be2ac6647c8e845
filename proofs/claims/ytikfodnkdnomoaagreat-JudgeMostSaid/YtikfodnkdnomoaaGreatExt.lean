/-
  The functions of this seat that have no Go body, as the evaluator takes them.
-/
import Derived.Test.YtikfodnkdnomoaaGreatDetQ
import Derived.Test.YtikfodnkdnomoaaGreatRows
import Derived.Laws.Externs
import Derived.KernelRfl
import GoSem.Extern.MathFloatBits
import GoSem.Extern.BytealgCompare
namespace Go.Proofs.YtikfodnkdnomoaaGreat
open Go Go.Det
def X : Go.Det.Ext := ⟨fun n =>
  match Nat.beq n 195 with
  | true => some Extern.BytealgCompare.compare
  | false =>
    match Nat.beq n 177 with
    | true => some Extern.MathFloatBits.float64bits
    | false =>
      match Nat.beq n 228 with
      | true => some Extern.MathFloatBits.float64frombits
      | false => none, fun n => Nat.beq n 152⟩

theorem mixed : Tryz.prog.follows .mixedOrders = true := by kernel_rfl
theorem nums : (Tryz.prog.funcs.toList.all fun fn => !(fn.name == "runtime.NumGoroutine")) = true := by kernel_rfl

theorem e195a : Extern.findNext Tryz.f195 = none := by kernel_rfl
theorem e195b : Extern.find Tryz.f195 = some Extern.BytealgCompare.compare := by kernel_rfl
theorem e177a : Extern.findNext Tryz.f177 = none := by kernel_rfl
theorem e177b : Extern.find Tryz.f177 = some Extern.MathFloatBits.float64bits := by kernel_rfl
theorem e228a : Extern.findNext Tryz.f228 = none := by kernel_rfl
theorem e228b : Extern.find Tryz.f228 = some Extern.MathFloatBits.float64frombits := by kernel_rfl
theorem e152a : Extern.findNext Tryz.f152 = none := by kernel_rfl
theorem e152b : Extern.find Tryz.f152 = some Extern.MapsClone.clone := by kernel_rfl

theorem extOK : ExtOK Tryz.prog X where
  pure := by
    intro g h fn hf hb hp args w
    simp only [X] at hp
    split at hp
    · rename_i hg
      have hg := Nat.eq_of_beq_eq_true hg
      subst hg
      rw [Tryz.func195] at hf
      cases hf
      cases hp
      exact run_callFunc_extern Tryz.func195 (by decide +kernel) (by kernel_rfl) e195a e195b args w
    · split at hp
      · rename_i hg
        have hg := Nat.eq_of_beq_eq_true hg
        subst hg
        rw [Tryz.func177] at hf
        cases hf
        cases hp
        exact run_callFunc_extern Tryz.func177 (by decide +kernel) (by kernel_rfl) e177a e177b args w
      · split at hp
        · rename_i hg
          have hg := Nat.eq_of_beq_eq_true hg
          subst hg
          rw [Tryz.func228] at hf
          cases hf
          cases hp
          exact run_callFunc_extern Tryz.func228 (by decide +kernel) (by kernel_rfl) e228a e228b args w
        · cases hp
  clone := by
    intro g fn hf hb hp args w
    have hg := Nat.eq_of_beq_eq_true hp
    subst hg
    rw [Tryz.func152] at hf
    cases hf
    exact run_callFunc_extern Tryz.func152 (by decide +kernel) (by kernel_rfl) e152a e152b args w
  num := by
    intro g fn hf _
    have h := nums
    rw [List.all_eq_true] at h
    have := h fn (List.mem_of_getElem? (by simpa using hf))
    simpa using this


end Go.Proofs.YtikfodnkdnomoaaGreat
