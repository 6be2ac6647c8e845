/-
  value.Name and liveryref02.Name: a text is a name, or it is none; both tell the same.
-/
import Derived.Test.YtpclafidblbicaaGreatDoorRows
import Derived.Test.YtpclafidblbicaaGreatDoorDetA
import Derived.WalkKit
import Derived.OwnWalkIn
import Derived.TacticsInMore
import Derived.RegionIn
import Derived.LoopNIn
import Derived.LoopIn
namespace Go.Proofs.YtpclafidblbicaaGreatDoor
open Go Go.Det
open Go.RowKit

theorem nameAll_step : ∀ (l : List UInt8) (i : Nat), nameAll i l = true ↔ ∀ j, (h : j < l.length) → nameCh (i + j) l[j] = true
  | [], i => by simp [nameAll]
  | c :: l, i => by
    unfold nameAll
    rw [Bool.and_eq_true, nameAll_step l (i + 1)]
    constructor
    · rintro ⟨h1, h2⟩ j hj
      cases j with
      | zero => simpa using h1
      | succ j => have := h2 j (by simpa using hj); simpa [Nat.add_assoc, Nat.add_comm 1 j] using this
    · intro h
      refine ⟨h 0 (by simp), fun j hj => ?_⟩
      have := h (j + 1) (by simpa using hj)
      simpa [Nat.add_assoc, Nat.add_comm 1 j] using this

theorem nameB_short {s : ByteArray} (h : (s.size : Int) < 1) : nameB s = false := by
  unfold nameB
  have : s.data.toList.length = s.size := Array.length_toList
  have h0 : s.data.toList.length = 0 := by omega
  rw [h0]; rfl

theorem nameB_long {s : ByteArray} (h : 8 < (s.size : Int)) : nameB s = false := by
  unfold nameB
  have : s.data.toList.length = s.size := Array.length_toList
  have h0 : Nat.ble s.data.toList.length 8 = false := by
    cases hb : Nat.ble s.data.toList.length 8 with
    | false => rfl
    | true => rw [Nat.ble_eq] at hb; omega
  rw [h0]; simp

theorem nameB_all {s : ByteArray} (h1 : ¬ (s.size : Int) < 1) (h2 : ¬ 8 < (s.size : Int)) (h : ∀ j (hj : j < s.data.toList.length), nameCh j s.data.toList[j] = true) : nameB s = true := by
  have e : s.data.toList.length = s.size := Array.length_toList
  unfold nameB
  rw [Bool.and_eq_true, Bool.and_eq_true, Nat.ble_eq, Nat.ble_eq, nameAll_step]
  exact ⟨⟨by omega, by omega⟩, fun j hj => by rw [Nat.zero_add]; exact h j hj⟩

theorem nameB_not {s : ByteArray} {k : Nat} (hk : k < s.data.toList.length) (h : nameCh k s.data.toList[k] = false) : nameB s = false := by
  cases hb : nameB s with
  | false => rfl
  | true =>
    unfold nameB at hb
    rw [Bool.and_eq_true, Bool.and_eq_true, nameAll_step] at hb
    have := hb.2 k hk
    rw [Nat.zero_add, h] at this
    cases this

theorem nameCh_iff (k : Nat) (c : UInt8) : nameCh k c = true ↔ (97 ≤ (c.toNat : Int) ∧ (c.toNat : Int) ≤ 122) ∨ (k ≠ 0 ∧ ((48 ≤ (c.toNat : Int) ∧ (c.toNat : Int) ≤ 57) ∨ (c.toNat : Int) = 95)) := by
  unfold nameCh
  simp only [Bool.or_eq_true, Bool.and_eq_true, Nat.ble_eq, Bool.not_eq_true', Nat.beq_eq_true_eq, Nat.beq_eq]
  have e : Nat.beq k 0 = false ↔ k ≠ 0 := by
    cases k <;> simp [Nat.beq]
  rw [e]
  omega

set_option maxRecDepth 100000 in
set_option maxHeartbeats 4000000 in
theorem name1_in (F : Fence) (n : Nat) (hf : F.fn 85) (hro : F.round = none) (s : ByteArray) (w : World) :
    CallsIn F n Tryz.prog 85 #[.string s] w fun e w' => e = .returned (.bool (nameB s)) ∧ Below w.heap.size w w' := by
  refine callsIn_of_wp Tryz.func85 rfl hf ?_ hro
  simp only [Tryz.ntmps85, List.size_toArray, List.length_cons, List.length_nil, Nat.reduceAdd, Nat.reduceSub, Array.replicate_succ, Array.replicate_zero, List.push_toArray, List.append_toArray, List.nil_append, List.cons_append]
  have hsz : s.data.toList.length = s.size := Array.length_toList
  by_cases h1 : (s.size : Int) < 1
  · gi_wp2
    go_ret
    exact ⟨congrArg (fun b => Ending.returned (Value.bool b)) (nameB_short h1).symm, Below.refl _ w⟩
  by_cases h2 : 8 < (s.size : Int)
  · gi_wp2
    go_ret
    exact ⟨congrArg (fun b => Ending.returned (Value.bool b)) (nameB_long h2).symm, Below.refl _ w⟩
  gi_wp2
  gi_loopw [16] (fun i wr => ∃ k : Nat, k ≤ s.size ∧ i = .int .i64 k ∧ wr = w ∧ ∀ j (hj : j < s.data.toList.length), j < k → nameCh j s.data.toList[j] = true) (fun i _ => match i with | .int _ z => s.size - z.toNat | _ => 0)
  case atStart => exact ⟨0, Nat.zero_le _, rfl, rfl, fun j _ hj => by omega⟩
  case round =>
    obtain ⟨k, hk, rfl, rfl, hall⟩ := hrel
    by_cases hlt : k < s.size
    · have hlt' : k < s.data.toList.length := by omega
      have hc : ((s.data.toList[k]).toNat : Int) = (s[k].toNat : Int) := rfl
      gi_wp2
      all_goals (try simp only [beq_iff_eq, beq_eq_false_iff_ne, ne_eq, Bool.not_eq_true', Bool.not_eq_false', decide_eq_false_iff_not, decide_eq_true_eq] at *)
      all_goals first
        | (exfalso; omega)
        | (have hk0 : k = 0 := by assumption
           subst hk0
           exfalso
           omega)
        | (have hn := (nameCh_iff k s.data.toList[k]).2 (by rw [hc]; omega)
           refine ⟨⟨k + 1, by omega, (by first | (simp; done) | (simp; omega)), (by trivial), fun j hj hjk => ?_⟩, by simp; omega⟩
           by_cases e : j < k
           · exact hall j hj e
           · have e : j = k := by omega
             subst e
             exact hn)
        | (have hn : nameCh k s.data.toList[k] = false := by
             cases hb : nameCh k s.data.toList[k] with
             | false => rfl
             | true =>
               have := (nameCh_iff k _).1 hb
               rw [hc] at this
               omega
           go_ret
           exact ⟨congrArg (fun b => Ending.returned (Value.bool b)) (nameB_not hlt' hn).symm, Below.refl _ _⟩)
    · gi_wp2
      go_ret
      exact ⟨congrArg (fun b => Ending.returned (Value.bool b)) (nameB_all (by omega) (by omega) fun j hj => hall j hj (by omega)).symm, Below.refl _ _⟩

set_option maxRecDepth 100000 in
set_option maxHeartbeats 4000000 in
theorem name2_in (F : Fence) (n : Nat) (hf : F.fn 65) (hro : F.round = none) (s : ByteArray) (w : World) :
    CallsIn F n Tryz.prog 65 #[.string s] w fun e w' => e = .returned (.bool (nameB s)) ∧ Below w.heap.size w w' := by
  refine callsIn_of_wp Tryz.func65 rfl hf ?_ hro
  simp only [Tryz.ntmps65, List.size_toArray, List.length_cons, List.length_nil, Nat.reduceAdd, Nat.reduceSub, Array.replicate_succ, Array.replicate_zero, List.push_toArray, List.append_toArray, List.nil_append, List.cons_append]
  have hsz : s.data.toList.length = s.size := Array.length_toList
  by_cases h1 : (s.size : Int) < 1
  · gi_wp2
    go_ret
    exact ⟨congrArg (fun b => Ending.returned (Value.bool b)) (nameB_short h1).symm, Below.refl _ w⟩
  by_cases h2 : 8 < (s.size : Int)
  · gi_wp2
    go_ret
    exact ⟨congrArg (fun b => Ending.returned (Value.bool b)) (nameB_long h2).symm, Below.refl _ w⟩
  gi_wp2
  gi_loopw [3] (fun i wr => ∃ k : Nat, k ≤ s.size ∧ i = .int .i64 k ∧ wr = w ∧ ∀ j (hj : j < s.data.toList.length), j < k → nameCh j s.data.toList[j] = true) (fun i _ => match i with | .int _ z => s.size - z.toNat | _ => 0)
  case atStart => exact ⟨0, Nat.zero_le _, rfl, rfl, fun j _ hj => by omega⟩
  case round =>
    obtain ⟨k, hk, rfl, rfl, hall⟩ := hrel
    by_cases hlt : k < s.size
    · have hlt' : k < s.data.toList.length := by omega
      have hc : ((s.data.toList[k]).toNat : Int) = (s[k].toNat : Int) := rfl
      gi_wp2
      all_goals (try simp only [beq_iff_eq, beq_eq_false_iff_ne, ne_eq, Bool.not_eq_true', Bool.not_eq_false', decide_eq_false_iff_not, decide_eq_true_eq] at *)
      all_goals first
        | (exfalso; omega)
        | (have hk0 : k = 0 := by assumption
           subst hk0
           exfalso
           omega)
        | (have hn := (nameCh_iff k s.data.toList[k]).2 (by rw [hc]; omega)
           refine ⟨⟨k + 1, by omega, (by first | (simp; done) | (simp; omega)), (by trivial), fun j hj hjk => ?_⟩, by simp; omega⟩
           by_cases e : j < k
           · exact hall j hj e
           · have e : j = k := by omega
             subst e
             exact hn)
        | (have hn : nameCh k s.data.toList[k] = false := by
             cases hb : nameCh k s.data.toList[k] with
             | false => rfl
             | true =>
               have := (nameCh_iff k _).1 hb
               rw [hc] at this
               omega
           go_ret
           exact ⟨congrArg (fun b => Ending.returned (Value.bool b)) (nameB_not hlt' hn).symm, Below.refl _ _⟩)
    · gi_wp2
      go_ret
      exact ⟨congrArg (fun b => Ending.returned (Value.bool b)) (nameB_all (by omega) (by omega) fun j hj => hall j hj (by omega)).symm, Below.refl _ _⟩

end Go.Proofs.YtpclafidblbicaaGreatDoor
