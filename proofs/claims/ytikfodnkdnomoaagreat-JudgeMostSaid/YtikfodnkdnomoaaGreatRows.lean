/-
  No cell of these rows narrows 'for every input' (looked for: loops, veiled, ifaces, maps, wideKeys, modest, calm, conditions, laid).
  DERIVED. THE GIVEN ROWS OF THIS SEAT. 3 by the template 'for every input the law returns true; each argument reads behind the call as it read before'; 0 by the template 'total and deterministic' (their statements: YtikfodnkdnomoaaGreatTotals.lean).
  GIVEN WITH THE SEED: the statements are not yours to turn. If you find one false, say at which input.
  Laid BY PROGRAM, IN A SANDBOX (cutbox-rows.mjs): the forced cells as the released guide's own fill.sh prints them over the translation b3ae397fcbbc736b… (all of the seat's roots in one cut). By AI agents, Wed Nov 11 2026. No macro, syntax, notation, axiom, sorry.
-/
import Derived.Test.YtikfodnkdnomoaaGreatChecked
import GoSem.Claim
import GoSem.ClaimJoined
import GoSem.ClaimMapViews
import Derived.JoinedTies
import Derived.KernelRfl
namespace Go.Proofs.YtikfodnkdnomoaaGreat
/- THE CELL 'sum', in the pinned program and in every row, IS THE sha256 OF THE DUMP (.gsa) THAT YtikfodnkdnomoaaGreatProg.lean LOADS. Nothing in Lean hashes anything: it is a label: what it is worth is what the hold of that sum in a sandbox is worth. -/
noncomputable def Tryz.pinned : Pinned := { name := "ytikfodnkdnomoaagreat", sum := "b3ae397fcbbc736b39e89d836b5e8dcc3705c16301a77c0a34beda402f56a05e", checked := Tryz.checked }
namespace Rows
def none {H : Type} : Left H := { results := [], args := [] }

/-- 'liverylaw27.JudgeMost': WHATEVER THE INPUT: true; the input reads as it did. -/
def judgeMostSpec : ChangeSpec := { name := "judgeMost", fn := fun _ => fun
  | [d] => { results := [.lit (.bool true)], args := [d] }
  | _ => none }
def judgeMostRow : OpenClaim := { program := "ytikfodnkdnomoaagreat", sum := "b3ae397fcbbc736b39e89d836b5e8dcc3705c16301a77c0a34beda402f56a05e", func := "livery/liverylaw27.JudgeMost", spec := "judgeMost", inPlace := ["maps.clone", "math.Float64bits", "math.Float64frombits", "internal/bytealg.abigen_runtime_cmpstring"], unfollowed := true, recurses := true, apart := false }
def JudgeMostSaid : Prop := judgeMostRow.holds Tryz.pinned (OpenSpec.ofChange judgeMostSpec)

/-- ITS FALSE NEIGHBOUR: 'it returns false'. Refute it at one input. -/
def judgeMostWrong : ChangeSpec := { name := "judgeMost", fn := fun _ => fun
  | [d] => { results := [.lit (.bool false)], args := [d] }
  | _ => none }
def JudgeMostWrongFalsely : Prop := judgeMostRow.holds Tryz.pinned (OpenSpec.ofChange judgeMostWrong)

/-- 'liverylaw27.JudgeOrders': WHATEVER THE INPUT: true; the input reads as it did. -/
def judgeOrdersSpec : ChangeSpec := { name := "judgeOrders", fn := fun _ => fun
  | [d1, d2] => { results := [.lit (.bool true)], args := [d1, d2] }
  | _ => none }
def judgeOrdersRow : OpenClaim := { program := "ytikfodnkdnomoaagreat", sum := "b3ae397fcbbc736b39e89d836b5e8dcc3705c16301a77c0a34beda402f56a05e", func := "livery/liverylaw27.JudgeOrders", spec := "judgeOrders", inPlace := ["maps.clone", "math.Float64bits", "math.Float64frombits", "internal/bytealg.abigen_runtime_cmpstring"], unfollowed := true, recurses := true, apart := false }
def JudgeOrdersSaid : Prop := judgeOrdersRow.holds Tryz.pinned (OpenSpec.ofChange judgeOrdersSpec)

/-- ITS FALSE NEIGHBOUR: 'it returns false'. Refute it at one input. -/
def judgeOrdersWrong : ChangeSpec := { name := "judgeOrders", fn := fun _ => fun
  | [d1, d2] => { results := [.lit (.bool false)], args := [d1, d2] }
  | _ => none }
def JudgeOrdersWrongFalsely : Prop := judgeOrdersRow.holds Tryz.pinned (OpenSpec.ofChange judgeOrdersWrong)

/-- 'liverylaw27.JudgeFinds': WHATEVER THE INPUT: true; the input reads as it did. -/
def judgeFindsSpec : ChangeSpec := { name := "judgeFinds", fn := fun _ => fun
  | [d1, d2] => { results := [.lit (.bool true)], args := [d1, d2] }
  | _ => none }
def judgeFindsRow : OpenClaim := { program := "ytikfodnkdnomoaagreat", sum := "b3ae397fcbbc736b39e89d836b5e8dcc3705c16301a77c0a34beda402f56a05e", func := "livery/liverylaw27.JudgeFinds", spec := "judgeFinds", inPlace := ["maps.clone", "math.Float64bits", "math.Float64frombits", "internal/bytealg.abigen_runtime_cmpstring"], unfollowed := true, recurses := true, apart := false }
def JudgeFindsSaid : Prop := judgeFindsRow.holds Tryz.pinned (OpenSpec.ofChange judgeFindsSpec)

/-- ITS FALSE NEIGHBOUR: 'it returns false'. Refute it at one input. -/
def judgeFindsWrong : ChangeSpec := { name := "judgeFinds", fn := fun _ => fun
  | [d1, d2] => { results := [.lit (.bool false)], args := [d1, d2] }
  | _ => none }
def JudgeFindsWrongFalsely : Prop := judgeFindsRow.holds Tryz.pinned (OpenSpec.ofChange judgeFindsWrong)

/- THE SECOND FORM. 'bulk': how many values and letters a reading holds, each counted each time it is reached (what is shared counts as often as it is met; a slice's spare places count too). A statement '..UptoSaid' is the law's where the arguments, and the package variables that the reading takes, are together of bulk at most 1048576: NARROWER than '..Said'. Prove '..Said' where nothing that the law and all that it calls make is longer than what came in: it says more and counts as full. Else prove '..UptoSaid'. A law counts once. -/
mutual
def uptoBulk {H : Type} : DataW H → Nat
  | .lit (.string bytes) => bytes.length + 1
  | .lit _ => 1
  | .nil => 1
  | .ptr d => uptoBulk d + 1
  | .slice elems spare => uptoBulkAll elems + uptoBulkAll spare + 1
  | .agg parts => uptoBulkAll parts + 1
  | .iface _ d => uptoBulk d + 1
  | .map entries => uptoBulkEntries entries + 1
  | .held _ => 1
def uptoBulkAll {H : Type} : List (DataW H) → Nat
  | [] => 0
  | d :: r => uptoBulk d + uptoBulkAll r
def uptoBulkEntries {H : Type} : List (Lit × DataW H) → Nat
  | [] => 0
  | x :: r => uptoBulkEntry x + uptoBulkEntries r
def uptoBulkEntry {H : Type} : Lit × DataW H → Nat
  | (.string bytes, d) => bytes.length + uptoBulk d + 1
  | (_, d) => uptoBulk d + 1
 end
def uptoSmall : (H : Type) → List (DataW H) → Bool := fun _ ds => decide (uptoBulkAll ds ≤ 1048576)
def OpenSpec.upto (s : _root_.Go.ChangeSpec) : _root_.Go.OpenSpec := { _root_.Go.OpenSpec.ofChange s with cond := some uptoSmall }

/-- 'liverylaw27.JudgeMost', WHERE WHAT IT READS IS OF BULK AT MOST 1048576: true; the input reads as it did. -/
def judgeMostUptoRow : OpenClaim := { program := "ytikfodnkdnomoaagreat", sum := "b3ae397fcbbc736b39e89d836b5e8dcc3705c16301a77c0a34beda402f56a05e", func := "livery/liverylaw27.JudgeMost", spec := "judgeMost", inPlace := ["maps.clone", "math.Float64bits", "math.Float64frombits", "internal/bytealg.abigen_runtime_cmpstring"], unfollowed := true, recurses := true, apart := false, narrowed := true }
def JudgeMostUptoSaid : Prop := judgeMostUptoRow.holds Tryz.pinned (OpenSpec.upto judgeMostSpec)

/-- 'liverylaw27.JudgeOrders', WHERE WHAT IT READS IS OF BULK AT MOST 1048576: true; the input reads as it did. -/
def judgeOrdersUptoRow : OpenClaim := { program := "ytikfodnkdnomoaagreat", sum := "b3ae397fcbbc736b39e89d836b5e8dcc3705c16301a77c0a34beda402f56a05e", func := "livery/liverylaw27.JudgeOrders", spec := "judgeOrders", inPlace := ["maps.clone", "math.Float64bits", "math.Float64frombits", "internal/bytealg.abigen_runtime_cmpstring"], unfollowed := true, recurses := true, apart := false, narrowed := true }
def JudgeOrdersUptoSaid : Prop := judgeOrdersUptoRow.holds Tryz.pinned (OpenSpec.upto judgeOrdersSpec)

/-- 'liverylaw27.JudgeFinds', WHERE WHAT IT READS IS OF BULK AT MOST 1048576: true; the input reads as it did. -/
def judgeFindsUptoRow : OpenClaim := { program := "ytikfodnkdnomoaagreat", sum := "b3ae397fcbbc736b39e89d836b5e8dcc3705c16301a77c0a34beda402f56a05e", func := "livery/liverylaw27.JudgeFinds", spec := "judgeFinds", inPlace := ["maps.clone", "math.Float64bits", "math.Float64frombits", "internal/bytealg.abigen_runtime_cmpstring"], unfollowed := true, recurses := true, apart := false, narrowed := true }
def JudgeFindsUptoSaid : Prop := judgeFindsUptoRow.holds Tryz.pinned (OpenSpec.upto judgeFindsSpec)

end Rows
end Go.Proofs.YtikfodnkdnomoaaGreat
