/-
  The closed runs of liverylaw24.BuildNone, by the evaluator.
-/
import Derived.Test.YtpclafidblbicaaGreatDoorOk
import Derived.Test.YtpclafidblbicaaGreatDoorDetM
namespace Go.Proofs.YtpclafidblbicaaGreatDoor
open Go Go.Det
open Go.RowKit (Below)

theorem wakes24_run : (evalCall Tryz.prog X2 100000 5 #[] Go.Det.start).map (·.1) = some (.bool true) := by kernel_rfl
theorem wakes24 (w : World) : Calls Tryz.prog 5 #[] w fun e w' => e = .returned (.bool true) ∧ Below w.heap.size w w' := run_true mixed ext2 wakes24_run rfl w
noncomputable def X9 : Go.Det.Ext := { X0 with fn := known (sorts0 ++ forks0 ++ [(5, constK (.bool true))]) }
theorem ext9 : ExtOK Tryz.prog X9 := ext0.more fun p hp => by
  rcases List.mem_append.1 hp with h | h
  · rcases List.mem_append.1 h with h | h
    · exact known_sorts p h
    · exact known_forks p h
  · simp only [List.mem_cons, List.not_mem_nil, or_false] at h
    subst h
    exact const_ok rfl wakes24

theorem kill_run : (evalCall Tryz.prog X0 1000 6 #[.pointer none, .pointer none] Go.Det.start).map (·.1) = some (.tuple #[]) := by kernel_rfl
theorem kill_none (w : World) : Calls Tryz.prog 6 #[.pointer none, .pointer none] w fun e w' => e = .returned (.tuple #[]) ∧ Below w.heap.size w w' := by
  obtain ⟨⟨u, A'⟩, h1, h2⟩ := Option.map_eq_some_iff.1 kill_run
  simp only at h2
  subst h2
  exact run_calls mixed ext0 h1 (.cons (.of_gr rfl) (.cons (.of_gr rfl) .nil)) rfl w

noncomputable def bnH0 : Code := match Tryz.f3.body with | some (.seq a _) => a | _ => .skip
noncomputable def bnH1 : Code := match Tryz.f3.body with | some (.seq _ (.seq a _)) => a | _ => .skip
noncomputable def bnH2 : Code := match Tryz.f3.body with | some (.seq _ (.seq _ (.seq a _))) => a | _ => .skip
noncomputable def bnH3 : Code := match Tryz.f3.body with | some (.seq _ (.seq _ (.seq _ (.seq a _)))) => a | _ => .skip
noncomputable def bnH4 : Code := match Tryz.f3.body with | some (.seq _ (.seq _ (.seq _ (.seq _ (.seq a _))))) => a | _ => .skip
noncomputable def bnH5 : Code := match Tryz.f3.body with | some (.seq _ (.seq _ (.seq _ (.seq _ (.seq _ (.seq a _)))))) => a | _ => .skip
noncomputable def bnRest : Code := match Tryz.f3.body with | some (.seq _ (.seq _ (.seq _ (.seq _ (.seq _ (.seq _ a)))))) => a | _ => .skip
theorem bn_body : Tryz.f3.body = some (.seq bnH0 (.seq bnH1 (.seq bnH2 (.seq bnH3 (.seq bnH4 (.seq bnH5 bnRest)))))) := by kernel_rfl

def u16 : List Value := [.chan (some 0), .chan (some 0), .chan (some 0), .chan (some 0), .chan (some 0), .chan (some 0), .chan (some 0), .chan (some 0), .chan (some 0), .chan (some 0), .chan (some 0), .chan (some 0), .chan (some 0), .chan (some 0), .chan (some 0), .chan (some 0)]
def u15 : List Value := [.chan (some 0), .chan (some 0), .chan (some 0), .chan (some 0), .chan (some 0), .chan (some 0), .chan (some 0), .chan (some 0), .chan (some 0), .chan (some 0), .chan (some 0), .chan (some 0), .chan (some 0), .chan (some 0), .chan (some 0)]
def tailB (bad : Bool) : List Value := [.int .i64 (if bad then 4 else 1), .int .i64 0, .int .i64 0, .int .i64 0, .int .i64 (if bad then 11 else 0), .int .i64 0, .slice none 0 0]
def tailR (bad : Bool) : List Value := [.int .i64 (if bad then 4 else 1), .int .i64 0, .int .i64 0, .int .i64 0, .int .i64 (if bad then 11 else 0)]
def bnX (bad : Bool) : List Value := if bad then u16 else .int .i64 17 :: u15
def bnObjs (bad : Bool) : List (Nat × Obj) := [(0, .cells ⟨bnX bad⟩ 28 (1, 0)), (1, .cells ⟨u16 ++ tailB bad⟩ 64 (1, 0)), (2, .cells ⟨u16 ++ tailR bad⟩ 48 (1, 0))]
def bnSlots : List (Nat × Value) := [(1, .pointer (some ⟨0, 0, none⟩)), (3, .pointer none), (4, .pointer (some ⟨1, 0, none⟩)), (5, .pointer (some ⟨2, 0, none⟩))]

theorem bn_bad : (endOf Tryz.prog X9 100000 Tryz.f3 bnRest 119 (slotsOf 119 bnSlots) (stOf 3 (bnObjs true))).map (·.1) = some (.bool true) := by kernel_rfl
theorem bn_good : (endOf Tryz.prog X9 100000 Tryz.f3 bnRest 119 (slotsOf 119 bnSlots) (stOf 3 (bnObjs false))).map (·.1) = some (.bool true) := by kernel_rfl
theorem bn_goes (bad : Bool) : Goes Tryz.prog Tryz.f3 bnRest 119 (slotsOf 119 bnSlots) (stOf 3 (bnObjs bad)) (.bool true) := by
  cases bad
  · exact Goes.fin mixed ext9 bn_good rfl
  · exact Goes.fin mixed ext9 bn_bad rfl

end Go.Proofs.YtpclafidblbicaaGreatDoor
