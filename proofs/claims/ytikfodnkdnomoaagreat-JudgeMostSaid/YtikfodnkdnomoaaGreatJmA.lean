/-
  JudgeMost, run by the evaluator: the pieces of its code, and what the first of them come to.
-/
import Derived.Test.YtikfodnkdnomoaaGreatExt
namespace Go.Proofs.YtikfodnkdnomoaaGreat
open Go Go.Det

noncomputable def jmA : Code := match Tryz.f3.body with | some (.seq a _) => a | _ => .skip
noncomputable def jmB : Code := match Tryz.f3.body with | some (.seq _ (.seq b _)) => b | _ => .skip
noncomputable def jmC : Code := match Tryz.f3.body with | some (.seq _ (.seq _ c)) => c | _ => .skip
theorem jm_shape : Tryz.f3.body = some (.seq jmA (.seq jmB jmC)) := by kernel_rfl

/-- the first two statements at a number; of the number itself nothing is kept -/
noncomputable def jm1 (n : Nat) : Option (Tr Value × St) := piece Tryz.prog X 1000 jmA 90 [] (ofArgs [.int .u8 n] 0 .nil) Go.Det.start
noncomputable def jm2 (n : Nat) : Option (Tr Value × St) := (jm1 n).bind fun p => piece Tryz.prog X 1000 jmB 90 [0, 11, 12] p.1 p.2
/-- the rest -/
noncomputable def jmEnd (r : Nat) : Option Value := (jm2 r).bind fun p => (endOf Tryz.prog X 100000 Tryz.f3 jmC 90 p.1 p.2).map (·.1)

noncomputable def jmRow (q : Nat) : List (Option (Tr Value × St)) := [jm2 (10 * q + 0), jm2 (10 * q + 1), jm2 (10 * q + 2), jm2 (10 * q + 3), jm2 (10 * q + 4), jm2 (10 * q + 5), jm2 (10 * q + 6), jm2 (10 * q + 7), jm2 (10 * q + 8), jm2 (10 * q + 9)]
theorem jmRow1 : jmRow 1 = jmRow 0 := by kernel_rfl
theorem jmRow2 : jmRow 2 = jmRow 0 := by kernel_rfl
theorem jmRow3 : jmRow 3 = jmRow 0 := by kernel_rfl
theorem jmRow4 : jmRow 4 = jmRow 0 := by kernel_rfl
theorem jmRow5 : jmRow 5 = jmRow 0 := by kernel_rfl
theorem jmRow6 : jmRow 6 = jmRow 0 := by kernel_rfl
theorem jmRow7 : jmRow 7 = jmRow 0 := by kernel_rfl
theorem jmRow8 : jmRow 8 = jmRow 0 := by kernel_rfl
theorem jmRow9 : jmRow 9 = jmRow 0 := by kernel_rfl
theorem jmRow10 : jmRow 10 = jmRow 0 := by kernel_rfl
theorem jmRow11 : jmRow 11 = jmRow 0 := by kernel_rfl
theorem jmRow12 : jmRow 12 = jmRow 0 := by kernel_rfl
theorem jmRow13 : jmRow 13 = jmRow 0 := by kernel_rfl
theorem jmRow14 : jmRow 14 = jmRow 0 := by kernel_rfl
theorem jmRow15 : jmRow 15 = jmRow 0 := by kernel_rfl
theorem jmRow16 : jmRow 16 = jmRow 0 := by kernel_rfl
theorem jmRow17 : jmRow 17 = jmRow 0 := by kernel_rfl
theorem jmRow18 : jmRow 18 = jmRow 0 := by kernel_rfl
theorem jmRow19 : jmRow 19 = jmRow 0 := by kernel_rfl
theorem jmRow20 : jmRow 20 = jmRow 0 := by kernel_rfl
theorem jmRow21 : jmRow 21 = jmRow 0 := by kernel_rfl
theorem jmRow22 : jmRow 22 = jmRow 0 := by kernel_rfl
theorem jmRow23 : jmRow 23 = jmRow 0 := by kernel_rfl
theorem jmRow24 : jmRow 24 = jmRow 0 := by kernel_rfl
theorem jmRow25 : jmRow 25 = jmRow 0 := by kernel_rfl
theorem jmRow_same : ∀ q : Nat, q < 26 → jmRow q = jmRow 0
  | 0, _ => rfl
  | 1, _ => jmRow1
  | 2, _ => jmRow2
  | 3, _ => jmRow3
  | 4, _ => jmRow4
  | 5, _ => jmRow5
  | 6, _ => jmRow6
  | 7, _ => jmRow7
  | 8, _ => jmRow8
  | 9, _ => jmRow9
  | 10, _ => jmRow10
  | 11, _ => jmRow11
  | 12, _ => jmRow12
  | 13, _ => jmRow13
  | 14, _ => jmRow14
  | 15, _ => jmRow15
  | 16, _ => jmRow16
  | 17, _ => jmRow17
  | 18, _ => jmRow18
  | 19, _ => jmRow19
  | 20, _ => jmRow20
  | 21, _ => jmRow21
  | 22, _ => jmRow22
  | 23, _ => jmRow23
  | 24, _ => jmRow24
  | 25, _ => jmRow25
  | n + 26, h => absurd h (by omega)

theorem jm_mod (n : Nat) (h : n < 256) : jm2 n = jm2 (n % 10) := by
  have hq := jmRow_same (n / 10) (by omega)
  have hr : n % 10 < 10 := Nat.mod_lt _ (by omega)
  have e : n = 10 * (n / 10) + n % 10 := by omega
  generalize n / 10 = q at hq e
  generalize n % 10 = r at hr e ⊢
  subst e
  simp only [jmRow, List.cons.injEq, Nat.mul_zero, Nat.zero_add] at hq
  obtain ⟨h0, h1, h2, h3, h4, h5, h6, h7, h8, h9, _⟩ := hq
  match r, hr with
  | 0, _ => exact h0
  | 1, _ => exact h1
  | 2, _ => exact h2
  | 3, _ => exact h3
  | 4, _ => exact h4
  | 5, _ => exact h5
  | 6, _ => exact h6
  | 7, _ => exact h7
  | 8, _ => exact h8
  | 9, _ => exact h9
  | r + 10, hr => omega

end Go.Proofs.YtikfodnkdnomoaaGreat
