/- The evaluator: the kinds of keys, and what the shelf says of slices.Sorted(maps.Keys(m)). -/
import Derived.Test.YtpclafidblbicaaGreatDoorDetS
import Derived.Shelf.SlIterI.Nil
import Derived.Shelf.SlIter.Nil
namespace Go.Det
open Go.RowKit (Below)
open Go.Maps Go.Proofs Go.Sort Go.Shelf

def intK : KeyKind Int where
  get := fun v => match v with
    | .int .i64 n => if (Lit.int .i64 n).wf = true then some n else none
    | _ => none
  enc := encZ
  le := fun x y => decide (x ≤ y)
  same := fun x y => decide (x = y)

def strK : KeyKind (List UInt8) where
  get := fun v => match v with
    | .string s => if s.data.toList.length ≤ 1048576 then some s.data.toList else none
    | _ => none
  enc := encStr
  le := leB
  same := fun x y => decide (x = y)

section
variable {P : Program} {kt : TypeId}

theorem intK_ok (hk : P.underlying kt = some (.int .i64)) : KeyOK P kt intK intOf where
  get := by
    intro v x h
    simp only [intK] at h
    split at h
    · split at h
      · rename_i n hw
        cases h
        exact ⟨_, keyOf_int_mk hk hw, rfl⟩
      · cases h
    · cases h
  same := fun a => by simp [intK]
  tr := fun a b c h1 h2 => by simp only [intK, decide_eq_true_eq] at *; omega
  to := fun a b => by simp only [intK, Bool.or_eq_true, decide_eq_true_eq]; omega
  an := fun a b h1 h2 => by simp only [intK, decide_eq_true_eq] at *; omega
  enc := fun a => rfl

theorem strK_ok (hk : P.underlying kt = some .string) : KeyOK P kt strK strOf where
  get := by
    intro v x h
    simp only [strK] at h
    split at h
    · split at h
      · rename_i s hw
        cases h
        refine ⟨_, Go.WideMaps.keyOf_string_mk hk ?_, rfl⟩
        have : s.size = s.data.toList.length := by rw [Array.length_toList]; rfl
        rw [this]
        exact Nat.le_trans hw (by decide)
      · cases h
    · cases h
  same := fun a => by simp [strK]
  tr := fun a b c h1 h2 => by simp only [strK, leB, decide_eq_true_eq] at *; exact List.le_trans h1 h2
  to := fun a b => by simp only [strK, leB, Bool.or_eq_true, decide_eq_true_eq]; exact List.le_total a b
  an := fun a b h1 h2 => by simp only [strK, leB, decide_eq_true_eq] at *; exact List.le_antisymm h1 h2
  enc := fun a => rfl

theorem keysOfD_int (D : DataW Unit) : keysOfD intOf D = intKeys D := by cases D <;> rfl
theorem keysOfD_str (D : DataW Unit) : keysOfD strOf D = strKeys D := by cases D <;> rfl

theorem sortsI {ρk ρs : Ren} (Lk : SlLaysZI.n10 P ρk) (Ls : SlLaysZI.n6 P ρs) (hsort : AnyZI.SortsIn P ρs Fence.wide 4)
    (e9 : ∀ args w, (callFunc (ρs.f 9) args).run P w = .ok (.enter (ρs.f 9) args) w) (eg : ∀ args w, (callFunc (ρk.f 10) args).run P w = .ok (.enter (ρk.f 10) args) w) :
    SortsKeys P (ρs.f 6) (ρk.f 10) (ρk.t 26) intK intOf where
  nil := fun Bm w hBm hm => by
    refine (callsIn_wide (n := 5)).1 ?_
    have hseq := AnyZI.keys_gives_nil Lk Fence.wide 2 trivial rfl Bm w hBm hm
    refine (AnyZI.sorted_in Ls Fence.wide 5 trivial trivial trivial trivial rfl (by omega) hsort e9 (ρk.f 10) _ trivial eg _ 0 (Nat.zero_le _) (by omega) w hseq).mono ?_
    rintro e w' ⟨v, ss, rfl, rfl, hrow, hnil, hb⟩
    obtain rfl := hnil.2 rfl
    exact ⟨rfl, hb⟩
  map := fun Bm b nn D0 R w hBm hm hown hsize => by
    refine (callsIn_wide (n := 5)).1 ?_
    have hseq := AnyZI.keys_gives Lk Fence.wide 2 trivial rfl (by omega) Bm b nn D0 w hBm hm hown
    refine (AnyZI.sorted_in Ls Fence.wide 5 trivial trivial trivial trivial rfl (by omega) hsort e9 (ρk.f 10) _ trivial eg _ (Maps.size D0) (Nat.le_trans hsize (by decide)) (by omega) w hseq).mono ?_
    rintro e w' ⟨v, ss, rfl, hp, hrow, hnil, hb⟩
    exact ⟨v, ss, _, rfl, by rw [keysOfD_int]; exact hp, hrow, hnil, hb⟩

theorem sortsS {ρk ρs : Ren} (Lk : SlLaysZ.n10 P ρk) (Ls : SlLaysZ.n6 P ρs) (hsort : AnyZ.SortsIn P ρs Fence.wide 4)
    (e9 : ∀ args w, (callFunc (ρs.f 9) args).run P w = .ok (.enter (ρs.f 9) args) w) (eg : ∀ args w, (callFunc (ρk.f 10) args).run P w = .ok (.enter (ρk.f 10) args) w) :
    SortsKeys P (ρs.f 6) (ρk.f 10) (ρk.t 26) strK strOf where
  nil := fun Bm w hBm hm => by
    refine (callsIn_wide (n := 5)).1 ?_
    have hseq := AnyZ.keys_gives_nil Lk Fence.wide 2 trivial rfl Bm w hBm hm
    refine (AnyZ.sorted_in Ls Fence.wide 5 trivial trivial trivial trivial rfl (by omega) hsort e9 (ρk.f 10) _ trivial eg _ 0 (Nat.zero_le _) (by omega) w hseq).mono ?_
    rintro e w' ⟨v, ss, rfl, rfl, hrow, hnil, hb⟩
    obtain rfl := hnil.2 rfl
    exact ⟨rfl, hb⟩
  map := fun Bm b nn D0 R w hBm hm hown hsize => by
    refine (callsIn_wide (n := 5)).1 ?_
    have hseq := AnyZ.keys_gives Lk Fence.wide 2 trivial rfl (by omega) Bm b nn D0 w hBm hm hown
    refine (AnyZ.sorted_in Ls Fence.wide 5 trivial trivial trivial trivial rfl (by omega) hsort e9 (ρk.f 10) _ trivial eg _ (Maps.size D0) (Nat.le_trans hsize (by decide)) (by omega) w hseq).mono ?_
    rintro e w' ⟨v, ss, rfl, hp, hrow, hnil, hb⟩
    exact ⟨v, ss, _, rfl, by rw [keysOfD_str]; exact hp, hrow, hnil, hb⟩
end
end Go.Det
