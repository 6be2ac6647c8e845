/-
  liverylaw27.JudgeMost returns true for every input, and its argument reads as it did.
  Conditions: none.
-/
import Derived.Test.YtikfodnkdnomoaaGreatRows
import Derived.Test.YtikfodnkdnomoaaGreatJmB
import Derived.Test.YtikfodnkdnomoaaGreatJmC
import Derived.WalkKit
import Derived.ProofKit
import Derived.OpenShut
namespace Go.Proofs.YtikfodnkdnomoaaGreat.judgeMost
open Go.ChangeShapes Go.WideShapes Go.ChangeAt Go.RowKit
set_option linter.unusedVariables false      -- a walk need not use every 'w<i>' (that an integer argument fits its kind)

theorem own : ownKnob Tryz.prog.godebug = none := by kernel_rfl

open Go.Det

theorem end_true : ∀ r : Nat, r < 10 → jmEnd r = some (.bool true)
  | 0, _ => jmEnd0
  | 1, _ => jmEnd1
  | 2, _ => jmEnd2
  | 3, _ => jmEnd3
  | 4, _ => jmEnd4
  | 5, _ => jmEnd5
  | 6, _ => jmEnd6
  | 7, _ => jmEnd7
  | 8, _ => jmEnd8
  | 9, _ => jmEnd9
  | n + 10, h => absurd h (by omega)

theorem walk (a0 : Int) (w0 : (Lit.int .u8 a0).wf = true) (w : World) :
    Calls Tryz.prog 3 #[.int .u8 a0] w fun e w' => e = .returned (.bool true) ∧ Below w.heap.size w w' := by
  have hb : 0 ≤ a0 ∧ a0 < 256 := by
    simp [Lit.wf, IntKind.min, IntKind.max, IntKind.bits, IntKind.signed] at w0
    omega
  obtain ⟨n, rfl⟩ : ∃ n : Nat, a0 = (n : Int) := ⟨a0.toNat, by omega⟩
  have hn : n < 256 := by omega
  have h2 := jm_mod n hn
  have he := end_true (n % 10) (Nat.mod_lt _ (by omega))
  unfold jmEnd at he
  rw [← h2] at he
  simp only [Option.bind_eq_some_iff, Option.map_eq_some_iff] at he
  obtain ⟨⟨T2, A2⟩, hp2, ⟨v, A3⟩, he, hv⟩ := he
  simp only at he hv
  subst hv
  unfold jm2 at hp2
  simp only [Option.bind_eq_some_iff] at hp2
  obtain ⟨⟨T1, A1⟩, hp1, hp2⟩ := hp2
  have goes : Goes Tryz.prog Tryz.f3 (.seq jmA (.seq jmB jmC)) 90 (ofArgs [.int .u8 n] 0 .nil) Go.Det.start (.bool true) :=
    Goes.seq mixed extOK hp1 (Goes.seq mixed extOK hp2 (Goes.of_end mixed extOK he rfl))
  exact Goes.calls (args := #[.int .u8 n]) Tryz.func3 jm_shape (by rw [Tryz.ntmps3]; show 1 ≤ 90; omega) (by rw [Tryz.ntmps3]; decide) (.cons (.ground 1 rfl) .nil) (by rw [Tryz.ntmps3]; exact goes) w

/-! ### THE ROW's STEP: WRITTEN OUT: LEAVE IT -/
set_option maxRecDepth 100000 in
theorem lifted (os : Os) (started : os.Started) (H : Type) (enc : TypeId × Value → H) :
    ReturnsInHanded {} Tryz.checked os 3 .any (Rows.judgeMostSpec.pre6 enc Tryz.prog Tryz.f3 Rows.judgeMostRow.domain false) (Rows.judgeMostSpec.post enc Tryz.prog Tryz.f3 false true false false) := by
  refine returnsInHanded_of_change (C := Tryz.checked) own started (by kernel_rfl) Tryz.func3
    (ChangeSpec.witness6 (enc := enc) (C := Tryz.checked) false ⟨#[], #[.int .u8 0], []⟩ 8 (by kernel_rfl) (by kernel_rfl) (by kernel_rfl) (by kernel_rfl)) ?_
  intro W base args ds gs before hval0 hW hcnd _
  have hval : ∀ (j : Nat) t v, Tryz.f3.params[j]? = some t → args[j]? = some v → Value.okWide Tryz.prog W .any base t v := hval0
  have hW' := hW
  obtain ⟨p, q, hA0, hV, rfl, hfz, hnd⟩ := hW
  have hA : DataW.TrodAll enc Tryz.prog W 0 (fun _ => true) true Tryz.f3.params.toList args.toList ds p := hA0
  rw [Tryz.params3] at hA hval
  obtain ⟨v0, vs0, d0, ds0, p0, q0, hargs, rfl, rfl, h0, r0⟩ := trodAll_cons hA
  obtain ⟨rfl, rfl, rfl⟩ := trodAll_nil r0
  obtain rfl : args = #[v0] := by cases args; simp_all
  obtain ⟨rfl, rfl⟩ := trodVars_none hV
  obtain ⟨a0, rfl, rfl, rfl, w0⟩ := open_int Tryz.underlying5 (hval 0 5 v0 rfl rfl) h0
  clear hA0 hval0
  simp only [List.append_nil] at hW'
  refine (walk a0 w0 W).mono fun e W' ⟨he, hb⟩ => ?_
  subst he
  exact ⟨_, rfl, _, _, _, [], [], [], hW', trodAll_cons_mk (shut_bool Tryz.underlying4 _) trodAll_mk0, trodAll_cons_mk (shut_int Tryz.underlying5 w0) trodAll_mk0, rfl, hb.frame _, fun h => by cases h⟩

theorem over : Rows.judgeMostRow.holds Tryz.pinned (OpenSpec.ofChange Rows.judgeMostSpec) :=
  OpenClaim.holds_of_wide 3 Tryz.f3 rfl rfl rfl rfl rfl rfl rfl ⟨rfl, rfl, rfl, rfl, rfl⟩ rfl rfl rfl rfl rfl (by kernel_rfl) Tryz.func3 (by kernel_rfl)
    (of_decide_eq_true (by kernel_rfl)) (by unfold Func.isWrapper; first | (rw [if_pos (by decide +kernel)]; kernel_rfl) | (rw [if_neg (by decide +kernel)]; exact ⟨rfl, rfl⟩))
    (fun os started H enc _ => lifted os started H enc)

theorem judgeMost_holds : Rows.JudgeMostSaid :=
  over
#print axioms judgeMost_holds
end Go.Proofs.YtikfodnkdnomoaaGreat.judgeMost
