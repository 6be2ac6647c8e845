/- The evaluator: what a step reads and writes, and that it hangs on nothing else. -/
import Derived.Test.YtpclafidblbicaaGreatDoorDetB
namespace Go.Det

theorem bit_test (n x : Nat) : (bit n).testBit x = decide (n = x) := by
  have : bit n = 2 ^ n := by
    show 1 <<< n = 2 ^ n
    rw [Nat.shiftLeft_eq, Nat.one_mul]
  rw [this, Nat.testBit_two_pow]

theorem lor_test (a b x : Nat) : (Nat.lor a b).testBit x = (a.testBit x || b.testBit x) := Nat.testBit_or a b x
theorem land_test (a b x : Nat) : (Nat.land a b).testBit x = (a.testBit x && b.testBit x) := Nat.testBit_and a b x

theorem Mono.refl (A : St) : Mono A A := ⟨rfl, Nat.le_refl _, fun _ h => h, fun _ h => h, fun _ _ => rfl, fun x h1 h2 => by omega⟩

theorem Mono.trans {A B C : St} (h : Mono A B) (k : Mono B C) : Mono A C where
  ro := k.ro.trans h.ro
  next := Nat.le_trans h.next k.next
  R := fun x e => k.R x (h.R x e)
  W := fun x e => k.W x (h.W x e)
  same := fun x e => (k.same x e).trans (h.same x (by
    cases hb : B.W.testBit x with
    | false => rfl
    | true => rw [k.W x hb] at e; cases e))
  new := fun x h1 h2 => by
    by_cases hx : x < B.next
    · exact k.W x (h.new x h1 hx)
    · exact k.new x (by omega) h2

theorem Loc.ret {α : Type} (a : α) : Loc (M.ret a) := by
  intro A v A' h
  rw [ret_eq] at h
  cases h
  refine ⟨Mono.refl A, fun B hB => ⟨B, rfl, hB.1, hB.2.1, hB.2.2.1, hB.2.2.2.1, fun x => ?_⟩⟩
  split
  · rename_i hw; exact hB.2.2.2.2 x (by simp [hw])
  · rfl

theorem Loc.fail {α : Type} : Loc (M.fail : M α) := by
  intro A v A' h
  simp [fail_eq] at h

theorem Loc.opt {α : Type} (o : Option α) : Loc (M.opt o) := by
  cases o with
  | none => exact Loc.fail
  | some a => exact Loc.ret a

theorem Loc.bind {α β : Type} {m : M α} {f : α → M β} (h : Loc m) (k : ∀ a, Loc (f a)) : Loc (m >>= f) := by
  intro A v A' he
  rw [bind_eq] at he
  obtain ⟨a, A1, h1, h2⟩ := he
  obtain ⟨m1, l1⟩ := h A a A1 h1
  obtain ⟨m2, l2⟩ := k a A1 v A' h2
  refine ⟨m1.trans m2, fun B hB => ?_⟩
  obtain ⟨b1, b2, b3, b4, b5⟩ := hB
  obtain ⟨B1, e1, c1, c2, c3, c4, c5⟩ := l1 B ⟨b1, b2, b3, b4, fun x hx => b5 x (by
    simp only [Bool.or_eq_true] at hx ⊢
    exact hx.imp (m2.R x) (m2.W x))⟩
  obtain ⟨B', e2, d1, d2, d3, d4, d5⟩ := l2 B1 ⟨c1, c2, c3, c4, fun x hx => by
    rw [c5 x]
    split
    · rfl
    · rename_i hw
      rw [b5 x hx, m1.same x (by simpa using hw)]⟩
  refine ⟨B', by rw [bind_eq]; exact ⟨a, B1, e1, e2⟩, d1, d2, d3, d4, fun x => ?_⟩
  rw [d5 x]
  split
  · rfl
  · rename_i hw
    rw [c5 x, if_neg (fun hh => hw (m2.W x hh))]

theorem Loc.rd (id : Nat) : Loc (rd id) := by
  intro A v A' h
  rw [rd_eq] at h
  obtain ⟨h, rfl⟩ := h
  refine ⟨⟨rfl, Nat.le_refl _, fun x hx => by simp only [St.look, lor_test, hx, Bool.true_or], fun x hx => hx, fun x _ => rfl, fun x h1 h2 => by simp at h2; omega⟩, fun B hB => ?_⟩
  obtain ⟨b1, b2, b3, b4, b5⟩ := hB
  refine ⟨B.look id, ?_, b1, b2, by simp only [St.look, b3], b4, fun x => ?_⟩
  · rw [rd_eq]
    exact ⟨by rw [b5 id (by simp [St.look, lor_test, bit_test])]; exact h, rfl⟩
  · simp only [St.look_get]
    split
    · rename_i hw; exact b5 x (by simp [hw])
    · rfl

theorem Loc.wr (id : Nat) (o : Option Obj) : Loc (wr id o) := by
  intro A v A' h
  rw [wr_eq] at h
  obtain ⟨h1, h2, rfl⟩ := h
  refine ⟨⟨rfl, Nat.le_refl _, fun x hx => hx, fun x hx => by simp only [St.write, lor_test, hx, Bool.true_or], fun x hx => ?_, fun x h1 h2 => by simp at h2; omega⟩, fun B hB => ?_⟩
  · rw [St.write_get _ _ _ _ h1, if_neg]
    rintro rfl
    simp [St.write, lor_test, bit_test] at hx
  · obtain ⟨b1, b2, b3, b4, b5⟩ := hB
    refine ⟨B.write id o, ?_, b1, b2, b3, by simp only [St.write, b4], fun x => ?_⟩
    · rw [wr_eq]; exact ⟨h1, by rw [b2]; exact h2, rfl⟩
    · rw [St.write_get _ _ _ _ h1, St.write_get _ _ _ _ h1]
      by_cases e : x = id
      · subst e
        simp [St.write, lor_test, bit_test]
      · simp only [if_neg e]
        split
        · rename_i hw
          exact b5 x (by simp [hw])
        · rfl

theorem Loc.al (o : Obj) : Loc (al o) := by
  intro A v A' h
  rw [al_eq] at h
  obtain ⟨h1, h2, rfl, rfl⟩ := h
  refine ⟨⟨rfl, by simp, fun x hx => hx, fun x hx => by simp only [St.alloc, lor_test, hx, Bool.true_or], fun x hx => ?_, fun x h1 h2 => ?_⟩, fun B hB => ?_⟩
  · rw [St.alloc_get _ _ _ h1, if_neg]
    rintro rfl
    simp [St.alloc, lor_test, bit_test] at hx
  · have : x = A.next := by simp at h2; omega
    subst this
    simp [St.alloc, lor_test, bit_test]
  · obtain ⟨b1, b2, b3, b4, b5⟩ := hB
    refine ⟨B.alloc o, ?_, by simp [b1], b2, b3, by simp only [St.alloc, b4, b1], fun x => ?_⟩
    · rw [al_eq]; exact ⟨by rw [b1]; exact h1, by rw [b1, b2]; exact h2, b1.symm, rfl⟩
    · rw [St.alloc_get _ _ _ (by rw [b1]; exact h1), St.alloc_get _ _ _ h1, b1]
      by_cases e : x = A.next
      · subst e
        simp [St.alloc, lor_test, bit_test]
      · simp only [if_neg e]
        split
        · rename_i hw
          exact b5 x (by simp [hw])
        · rfl

theorem meas_eq {α : Type} {m : M α} {A A' : St} {r : α × Nat × Nat} : meas m A = some (r, A') ↔
    ∃ B, m { A with R := 0, W := 0 } = some (r.1, B) ∧ r.2.1 = B.R ∧ r.2.2 = B.W ∧ A' = { B with R := Nat.lor A.R B.R, W := Nat.lor A.W B.W } := by
  unfold meas
  cases h : m { A with R := 0, W := 0 } with
  | none => simp
  | some p =>
    obtain ⟨a, B⟩ := p
    obtain ⟨r1, r2, r3⟩ := r
    simp only [force_eq, Option.some.injEq, Prod.mk.injEq]
    constructor
    · rintro ⟨⟨rfl, rfl, rfl⟩, rfl⟩
      exact ⟨B, ⟨rfl, rfl⟩, rfl, rfl, rfl⟩
    · rintro ⟨B', ⟨rfl, rfl⟩, rfl, rfl, rfl⟩
      exact ⟨⟨rfl, rfl, rfl⟩, rfl⟩

theorem Loc.meas {α : Type} {m : M α} (h : Loc m) : Loc (meas m) := by
  intro A v A' he
  rw [meas_eq] at he
  obtain ⟨B0, h1, h2, h3, rfl⟩ := he
  obtain ⟨m1, l1⟩ := h _ _ _ h1
  refine ⟨⟨m1.ro, m1.next, fun x hx => by simp only [lor_test, hx, Bool.true_or], fun x hx => by simp only [lor_test, hx, Bool.true_or], fun x hx => ?_, fun x h1 h2 => by simp only [lor_test, m1.new x h1 h2, Bool.or_true]⟩, fun B hB => ?_⟩
  · simp only [lor_test, Bool.or_eq_false_iff] at hx
    exact m1.same x hx.2
  · obtain ⟨b1, b2, b3, b4, b5⟩ := hB
    simp only [lor_test] at b5
    obtain ⟨B', e1, c1, c2, c3, c4, c5⟩ := l1 { B with R := 0, W := 0 } ⟨b1, b2, rfl, rfl, fun x hx => b5 x (by
      simp only [Bool.or_eq_true] at hx ⊢
      exact hx.imp .inr .inr)⟩
    refine ⟨{ B' with R := Nat.lor B.R B'.R, W := Nat.lor B.W B'.W }, ?_, c1, c2, by simp only [b3, c3], by simp only [b4, c4], fun x => ?_⟩
    · rw [meas_eq]
      exact ⟨B', e1, by rw [h2, c3], by rw [h3, c4], rfl⟩
    · show B'.get x = if (Nat.lor A.W B0.W).testBit x = true then B0.get x else B.get x
      rw [c5 x, lor_test]
      cases hw : B0.W.testBit x with
      | true => simp
      | false =>
        simp only [Bool.false_eq_true, if_false, Bool.or_false]
        split
        · rename_i ha
          have h5 := b5 x (by simp [ha])
          have h6 := m1.same x hw
          show B.get x = B0.get x
          rw [h5, h6]
          rfl
        · rfl

/-! ### Every operation -/
section
variable (P : Program)

theorem rdCells_loc (id : Nat) : Loc (rdCells id) := by
  unfold rdCells
  refine Loc.bind (Loc.rd _) fun o => ?_
  split
  · exact Loc.ret _
  · exact Loc.fail

theorem rdMap_loc (id : Nat) : Loc (rdMap id) := by
  unfold rdMap
  refine Loc.bind (Loc.rd _) fun o => ?_
  split
  · exact Loc.ret _
  · exact Loc.fail

theorem aLoad_loc (t : TypeId) (a : Value) : Loc (aLoad P t a) := by
  unfold aLoad
  repeat' first
    | exact Loc.ret _
    | exact Loc.fail
    | exact Loc.opt _
    | exact rdCells_loc _
    | refine Loc.bind ?_ fun _ => ?_
    | split

theorem aStoreAt_loc (id off : Nat) (vs : List Value) : Loc (aStoreAt id off vs) := by
  unfold aStoreAt
  repeat' first
    | exact Loc.ret _
    | exact Loc.fail
    | exact Loc.rd _
    | exact Loc.wr _ _
    | refine Loc.bind ?_ fun _ => ?_
    | split

theorem aStore_loc (t : TypeId) (a v : Value) : Loc (aStore P t a v) := by
  unfold aStore
  repeat' first
    | exact Loc.fail
    | exact Loc.opt _
    | exact aStoreAt_loc _ _ _
    | refine Loc.bind ?_ fun _ => ?_
    | split

theorem aRow_loc (e : TypeId) (cs : Array Value) : Loc (aRow e cs) := by
  unfold aRow
  split
  · exact Loc.al _
  · exact Loc.fail

theorem aBox_loc (e : TypeId) (cs : Array Value) : Loc (aBox e cs) := by
  unfold aBox
  split
  · exact Loc.al _
  · exact Loc.fail

theorem aNew_loc (e : TypeId) (v : Value) : Loc (aNew e v) := by
  unfold aNew
  exact Loc.bind (aBox_loc _ _) fun _ => Loc.ret _

theorem aBuildSlice_loc (t : TypeId) (len : Nat) (parts : Array (Nat × Value)) : Loc (aBuildSlice P t len parts) := by
  unfold aBuildSlice
  repeat' first
    | exact Loc.ret _
    | exact Loc.fail
    | exact Loc.opt _
    | exact aRow_loc _ _
    | refine Loc.bind ?_ fun _ => ?_
    | split

theorem aMakeSlice_loc (t : TypeId) (len cap : Value) : Loc (aMakeSlice P t len cap) := by
  unfold aMakeSlice
  repeat' first
    | exact Loc.ret _
    | exact Loc.fail
    | exact Loc.opt _
    | exact aRow_loc _ _
    | refine Loc.bind ?_ fun _ => ?_
    | split

theorem aCells_loc (size n : Nat) (x : Value) : Loc (aCells size n x) := by
  unfold aCells
  repeat' first
    | exact Loc.ret _
    | exact Loc.fail
    | exact Loc.opt _
    | exact rdCells_loc _
    | refine Loc.bind ?_ fun _ => ?_
    | split

theorem aAppendTo_loc (elem : TypeId) (size : Nat) (s x : Value) (len n : Nat) : Loc (aAppendTo elem size s x len n) := by
  unfold aAppendTo
  repeat' first
    | exact Loc.ret _
    | exact Loc.fail
    | exact Loc.opt _
    | exact Loc.rd _
    | exact Loc.wr _ _
    | exact aRow_loc _ _
    | exact aCells_loc _ _ _
    | exact aStoreAt_loc _ _ _
    | refine Loc.bind ?_ fun _ => ?_
    | split

theorem aAppend_loc (argTypes : Array TypeId) (args : Array Value) : Loc (aAppend P argTypes args) := by
  unfold aAppend
  repeat' first
    | exact Loc.fail
    | exact Loc.opt _
    | exact aAppendTo_loc _ _ _ _ _ _
    | refine Loc.bind ?_ fun _ => ?_
    | split

theorem aCopy_loc (argTypes : Array TypeId) (args : Array Value) : Loc (aCopy P argTypes args) := by
  unfold aCopy
  repeat' first
    | exact Loc.ret _
    | exact Loc.fail
    | exact Loc.opt _
    | exact aCells_loc _ _ _
    | exact aStoreAt_loc _ _ _
    | refine Loc.bind ?_ fun _ => ?_
    | split

theorem aClear_loc (argTypes : Array TypeId) (args : Array Value) : Loc (aClear P argTypes args) := by
  unfold aClear
  repeat' first
    | exact Loc.ret _
    | exact Loc.fail
    | exact Loc.opt _
    | exact Loc.rd _
    | exact Loc.wr _ _
    | exact aStoreAt_loc _ _ _
    | refine Loc.bind ?_ fun _ => ?_
    | split

theorem aLenOp_loc (argTypes : Array TypeId) (args : Array Value) : Loc (aLenOp P argTypes args) := by
  unfold aLenOp
  repeat' first
    | exact Loc.ret _
    | exact Loc.fail
    | exact Loc.rd _
    | refine Loc.bind ?_ fun _ => ?_
    | split

theorem aDelete_loc (argTypes : Array TypeId) (args : Array Value) : Loc (aDelete P argTypes args) := by
  unfold aDelete
  repeat' first
    | exact Loc.ret _
    | exact Loc.fail
    | exact Loc.opt _
    | exact rdMap_loc _
    | exact Loc.wr _ _
    | refine Loc.bind ?_ fun _ => ?_
    | split

theorem aLookup_loc (t : TypeId) (m k : Value) (ok : Bool) : Loc (aLookup P t m k ok) := by
  unfold aLookup
  repeat' first
    | exact Loc.ret _
    | exact Loc.fail
    | exact Loc.opt _
    | exact rdMap_loc _
    | refine Loc.bind ?_ fun _ => ?_
    | split

theorem aMapUpdate_loc (t : TypeId) (m k v : Value) : Loc (aMapUpdate P t m k v) := by
  unfold aMapUpdate
  repeat' first
    | exact Loc.fail
    | exact Loc.opt _
    | exact rdMap_loc _
    | exact Loc.wr _ _
    | refine Loc.bind ?_ fun _ => ?_
    | split

theorem aMapEntry_loc (t : TypeId) (m k : Value) : Loc (aMapEntry P t m k) := by
  unfold aMapEntry
  repeat' first
    | exact Loc.ret _
    | exact Loc.fail
    | exact Loc.opt _
    | exact rdMap_loc _
    | exact Loc.wr _ _
    | refine Loc.bind ?_ fun _ => ?_
    | split

theorem aEntryStore_loc (m s v : Value) : Loc (aEntryStore m s v) := by
  unfold aEntryStore
  repeat' first
    | exact Loc.fail
    | exact Loc.opt _
    | exact rdMap_loc _
    | exact Loc.wr _ _
    | refine Loc.bind ?_ fun _ => ?_
    | split

theorem aRange_loc (t : TypeId) (x : Value) : Loc (aRange P t x) := by
  unfold aRange
  repeat' first
    | exact Loc.ret _
    | exact Loc.fail
    | exact Loc.al _
    | exact rdMap_loc _
    | refine Loc.bind ?_ fun _ => ?_
    | split

theorem aNext_loc (it : Value) (b : Bool) : Loc (aNext it b) := by
  unfold aNext
  repeat' first
    | exact Loc.ret _
    | exact Loc.fail
    | exact Loc.rd _
    | exact Loc.wr _ _
    | exact rdMap_loc _
    | refine Loc.bind ?_ fun _ => ?_
    | split

theorem aEntry_loc (it : Value) : Loc (aEntry it) := by
  unfold aEntry
  repeat' first
    | exact Loc.ret _
    | exact Loc.fail
    | exact Loc.opt _
    | exact Loc.rd _
    | exact rdMap_loc _
    | refine Loc.bind ?_ fun _ => ?_
    | split

theorem aConvert_loc (src dst : TypeId) (x : Value) : Loc (aConvert P src dst x) := by
  unfold aConvert
  repeat' first
    | exact Loc.ret _
    | exact Loc.fail
    | exact Loc.opt _
    | exact aRow_loc _ _
    | exact aCells_loc _ _ _
    | refine Loc.bind ?_ fun _ => ?_
    | split

theorem aClone_loc (args : Array Value) : Loc (aClone args) := by
  unfold aClone
  generalize args.toList = l
  repeat' first
    | exact Loc.ret _
    | exact Loc.fail
    | exact Loc.al _
    | exact rdMap_loc _
    | refine Loc.bind ?_ fun _ => ?_
    | split

theorem aBuiltin_loc (b : Builtin) (argTypes : Array TypeId) (args : Array Value) : Loc (aBuiltin P b argTypes args) := by
  unfold aBuiltin
  split
  · exact aAppend_loc P _ _
  · exact aCopy_loc P _ _
  · exact aClear_loc P _ _
  · exact aDelete_loc P _ _
  · exact aLenOp_loc P _ _
  · split
    · exact Loc.opt _
    · exact Loc.fail
  · split
    · exact Loc.opt _
    · exact Loc.fail
  · exact Loc.fail

variable {X : Ext} {call : Func → FuncId → Array Value → M Value} (hc : ∀ fn g args, Loc (call fn g args))
include hc

theorem aCall_loc (f : Value) (args : Array Value) : Loc (aCall P X call f args) := by
  unfold aCall
  repeat' first
    | exact Loc.fail
    | exact Loc.ret _
    | exact Loc.opt _
    | exact aClone_loc _
    | exact hc _ _ _
    | (rename_i s _; exact s.property _)
    | (rename_i s; exact s.property _)
    | refine Loc.bind ?_ fun _ => ?_
    | split

theorem evalOp_loc (ρ : Operand → Value) (o : Oper) : Loc (evalOp P X call ρ o) := by
  unfold evalOp
  repeat' first
    | exact Loc.ret _
    | exact Loc.fail
    | exact Loc.opt _
    | exact Loc.al _
    | exact aNew_loc _ _
    | exact aBuildSlice_loc P _ _ _
    | exact aLoad_loc P _ _
    | exact aStore_loc P _ _ _
    | exact aConvert_loc P _ _ _
    | exact aMakeSlice_loc P _ _ _
    | exact aLookup_loc P _ _ _ _
    | exact aMapUpdate_loc P _ _ _ _
    | exact aMapEntry_loc P _ _ _
    | exact aEntryStore_loc _ _ _
    | exact aRange_loc P _ _
    | exact aNext_loc _ _
    | exact aEntry_loc _
    | exact aBuiltin_loc P _ _ _
    | exact aCall_loc P hc _ _
    | refine Loc.bind ?_ fun _ => ?_
    | split

theorem step_loc (ops : Array Oper) (o : Oper) (T : Tr Value) : Loc (step P X call ops o T) := by
  unfold step
  refine Loc.bind (Loc.opt _) fun b => ?_
  split
  · exact evalOp_loc P hc _ _
  · exact Loc.ret _

theorem steps_loc (ops : Array Oper) (n : Nat) : ∀ (l : List Oper) (T : Tr Value), Loc (steps P X call ops n l T)
  | [], T => Loc.ret _
  | o :: l, T => by
    unfold steps
    exact Loc.bind (step_loc P hc _ _ _) fun v => Loc.bind (Loc.opt _) fun T => steps_loc ops n l T

theorem stepsM_loc (ops : Array Oper) (n : Nat) : ∀ (l : List Oper) (T : Tr Value), Loc (stepsM P X call ops n l T)
  | [], T => Loc.ret _
  | o :: l, T => by
    unfold stepsM
    refine Loc.bind (Loc.meas (step_loc P hc _ _ _)) fun v => ?_
    split
    refine Loc.bind (Loc.opt _) fun T => ?_
    refine Loc.bind (stepsM_loc ops n l T) fun r => ?_
    split
    exact Loc.ret _

theorem evalRegion_loc (ops : Array Oper) (draw : Bool) (n : Nat) (T : Tr Value) : Loc (evalRegion P X call ops draw n T) := by
  unfold evalRegion
  split
  · exact steps_loc P hc _ _ _ _
  · refine Loc.bind (stepsM_loc P hc _ _ _ _) fun r => ?_
    split
    split
    · exact Loc.ret _
    · exact Loc.fail

end

theorem aResult_loc (P : Program) (T : Tr Value) : ∀ l : List ResultVar, Loc (aResult P T l)
  | [] => Loc.ret _
  | .tmp t :: rest => by
    unfold aResult
    exact Loc.bind (aResult_loc P T rest) fun _ => Loc.ret _
  | .cell a t :: rest => by
    unfold aResult
    exact Loc.bind (aLoad_loc P _ _) fun _ => Loc.bind (aResult_loc P T rest) fun _ => Loc.ret _

theorem aResults_loc (P : Program) (fn : Func) (T : Tr Value) : Loc (aResults P fn T) := by
  unfold aResults
  refine Loc.bind (aResult_loc P T _) fun l => ?_
  split
  · exact Loc.ret _
  · exact Loc.ret _

theorem enter_loc (P : Program) {E : Code → Nat → Tr Value → M (Out × Tr Value)} (hE : ∀ c n T, Loc (E c n T)) (fn : Func) (g : FuncId) (args : Array Value) : Loc (enter P E fn g args) := by
  unfold enter
  repeat' first
    | exact Loc.fail
    | exact aResults_loc P _ _
    | exact hE _ _ _
    | refine Loc.bind ?_ fun _ => ?_
    | split

theorem evalScope_loc {E : Code → Nat → Tr Value → M (Out × Tr Value)} (hE : ∀ c n T, Loc (E c n T)) (c : Code) (n : Nat) : ∀ (j : Nat) (cur : Code) (T : Tr Value), Loc (evalScope E c n j cur T)
  | 0, cur, T => Loc.fail
  | j + 1, cur, T => by
    unfold evalScope
    repeat' first
      | exact Loc.ret _
      | exact hE _ _ _
      | exact evalScope_loc hE c n j _ _
      | refine Loc.bind ?_ fun _ => ?_
      | split

theorem evalCode_loc (P : Program) (X : Ext) : ∀ (k : Nat) (c : Code) (n : Nat) (T : Tr Value), Loc (evalCode P X k c n T)
  | 0, c, n, T => Loc.fail
  | k + 1, c, n, T => by
    have ih := evalCode_loc P X k
    unfold evalCode
    repeat' first
      | exact Loc.ret _
      | exact Loc.fail
      | exact ih _ _ _
      | exact evalScope_loc ih _ _ _ _ _
      | exact evalRegion_loc P (fun fn g args => enter_loc P ih fn g args) _ _ _ _
      | refine Loc.bind ?_ fun _ => ?_
      | split

end Go.Det
