/-
  The functions of this seat that have no Go body, as the evaluator takes them.
-/
import Derived.Test.YtpclafidblbicaaGreatDoorRows
import Derived.Test.YtpclafidblbicaaGreatDoorDetZ
import Derived.Laws.Externs
import Derived.KernelRfl
import GoSem.Extern.MathFloatBits
import GoSem.Extern.BytealgCompare
namespace Go.Proofs.YtpclafidblbicaaGreatDoor
open Go Go.Det
def X0 : Go.Det.Ext := ⟨fun n =>
  match Nat.beq n 323 with
  | true => some Extern.BytealgCompare.compare
  | false =>
    match Nat.beq n 221 with
    | true => some Extern.MathFloatBits.float64bits
    | false =>
      match Nat.beq n 250 with
      | true => some Extern.MathFloatBits.float64frombits
      | false => none, fun _ => false, fun _ => none, fun n => Nat.beq n 221⟩

theorem mixed : Tryz.prog.follows .mixedOrders = true := by kernel_rfl
theorem nums : (Tryz.prog.funcs.toList.all fun fn => !(fn.name == "runtime.NumGoroutine")) = true := by kernel_rfl

theorem e1a : Extern.findNext Tryz.f323 = none := by kernel_rfl
theorem e1b : Extern.find Tryz.f323 = some Extern.BytealgCompare.compare := by kernel_rfl
theorem e2a : Extern.findNext Tryz.f221 = none := by kernel_rfl
theorem e2b : Extern.find Tryz.f221 = some Extern.MathFloatBits.float64bits := by kernel_rfl
theorem e3a : Extern.findNext Tryz.f250 = none := by kernel_rfl
theorem e3b : Extern.find Tryz.f250 = some Extern.MathFloatBits.float64frombits := by kernel_rfl

theorem ext0 : ExtOK Tryz.prog X0 where
  pure := by
    intro g h fn hf hb hp args w
    simp only [X0] at hp
    split at hp
    · rename_i hg
      have hg := Nat.eq_of_beq_eq_true hg
      subst hg
      rw [Tryz.func323] at hf
      cases hf
      cases hp
      exact run_callFunc_extern Tryz.func323 (by decide +kernel) (by kernel_rfl) e1a e1b args w
    · split at hp
      · rename_i hg
        have hg := Nat.eq_of_beq_eq_true hg
        subst hg
        rw [Tryz.func221] at hf
        cases hf
        cases hp
        exact run_callFunc_extern Tryz.func221 (by decide +kernel) (by kernel_rfl) e2a e2b args w
      · split at hp
        · rename_i hg
          have hg := Nat.eq_of_beq_eq_true hg
          subst hg
          rw [Tryz.func250] at hf
          cases hf
          cases hp
          exact run_callFunc_extern Tryz.func250 (by decide +kernel) (by kernel_rfl) e3a e3b args w
        · cases hp
  clone := by
    intro g fn hf hb hp args w
    cases hp
  fn := by
    intro g s fn hf hb hs
    cases hs
  bits := by
    intro g fn hf hb hp args w
    have hg := Nat.eq_of_beq_eq_true hp
    subst hg
    rw [Tryz.func221] at hf
    cases hf
    exact run_callFunc_extern Tryz.func221 (by decide +kernel) (by kernel_rfl) e2a e2b args w
  num := by
    intro g fn hf _
    have h := nums
    rw [List.all_eq_true] at h
    have := h fn (List.mem_of_getElem? (by simpa using hf))
    simpa using this

end Go.Proofs.YtpclafidblbicaaGreatDoor
