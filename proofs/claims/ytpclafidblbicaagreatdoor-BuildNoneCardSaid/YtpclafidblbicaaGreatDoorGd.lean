/-
  stmt.Good and liveryref16.Good tell the same of any statement that builds an index.
-/
import Derived.Test.YtpclafidblbicaaGreatDoorOk
import Derived.Test.YtpclafidblbicaaGreatDoorNm
import Derived.Test.YtpclafidblbicaaGreatDoorLg
import Derived.Test.YtpclafidblbicaaGreatDoorDetM
namespace Go.Proofs.YtpclafidblbicaaGreatDoor
open Go Go.Det
open Go.RowKit (Below)

def namesK : List (FuncId × Known) := [(85, nameK), (65, nameK)]
noncomputable def X7 : Go.Det.Ext := { X0 with fn := known namesK }
noncomputable def X8 : Go.Det.Ext := { X0 with fn := known (namesK ++ [(60, forkK Tryz.prog X7 noY noZ 200 100 60)]) }

theorem known_names : ∀ p ∈ namesK, KnownOK Tryz.prog p.1 p.2 := by
  intro p hp
  simp only [namesK, List.mem_cons, List.not_mem_nil, or_false] at hp
  rcases hp with rfl | rfl
  · exact name_ok fun s w => (callsIn_wide (n := 3)).1 (name1_in Fence.wide 3 trivial rfl s w)
  · exact name_ok fun s w => (callsIn_wide (n := 3)).1 (name2_in Fence.wide 3 trivial rfl s w)

theorem ext7 : ExtOK Tryz.prog X7 := ext0.more known_names
theorem ext8 : ExtOK Tryz.prog X8 := ext0.more fun p hp => by
  rcases List.mem_append.1 hp with h | h
  · exact known_names p h
  · simp only [List.mem_cons, List.not_mem_nil, or_false] at h
    subst h
    exact fork_ok mixed ext7 many_none (by kernel_rfl)

def gc0 : List Value := [.int .i64 17, .chan (some 20), .chan (some 28), .chan (some 36), .chan (some 5), .chan (some 0), .chan (some 0), .chan (some 0), .chan (some 0), .chan (some 0), .chan (some 0), .chan (some 0), .chan (some 0), .chan (some 0), .chan (some 0), .chan (some 0)]
def gc1 : List Value := [.int .i64 17, .chan (some 20), .chan (some 28), .chan (some 36), .string ⟨#[]⟩, .chan (some 4), .chan (some 0), .chan (some 0), .chan (some 0), .chan (some 0), .chan (some 0), .chan (some 0), .chan (some 0), .chan (some 0), .chan (some 0), .chan (some 0)]
def gc2 : List Value := [.int .i64 17, .chan (some 20), .chan (some 28), .chan (some 36), .string ⟨#[]⟩, .int .i64 0, .chan (some 4), .chan (some 0), .chan (some 0), .chan (some 0), .chan (some 0), .chan (some 0), .chan (some 0), .chan (some 0), .chan (some 0), .chan (some 0)]
def gc3 : List Value := [.int .i64 17, .chan (some 20), .chan (some 28), .chan (some 36), .string ⟨#[]⟩, .int .i64 0, .int .i64 0, .chan (some 6), .chan (some 0), .chan (some 0), .chan (some 0), .chan (some 0), .chan (some 0), .chan (some 0), .chan (some 0), .chan (some 0)]
def gc4 : List Value := [.int .i64 17, .chan (some 20), .chan (some 28), .chan (some 36), .string ⟨#[]⟩, .int .i64 0, .int .i64 0, .float .f64 0, .chan (some 5), .chan (some 0), .chan (some 0), .chan (some 0), .chan (some 0), .chan (some 0), .chan (some 0), .chan (some 0)]
def gc5 : List Value := [.int .i64 17, .chan (some 20), .chan (some 28), .chan (some 36), .string ⟨#[]⟩, .int .i64 0, .int .i64 0, .float .f64 0, .string ⟨#[]⟩, .chan (some 4), .chan (some 0), .chan (some 0), .chan (some 0), .chan (some 0), .chan (some 0), .chan (some 0)]
def gc6 : List Value := [.int .i64 17, .chan (some 20), .chan (some 28), .chan (some 36), .string ⟨#[]⟩, .int .i64 0, .int .i64 0, .float .f64 0, .string ⟨#[]⟩, .int .i64 0, .chan (some 4), .chan (some 0), .chan (some 0), .chan (some 0), .chan (some 0), .chan (some 0)]
def gc7 : List Value := [.int .i64 17, .chan (some 20), .chan (some 28), .chan (some 36), .string ⟨#[]⟩, .int .i64 0, .int .i64 0, .float .f64 0, .string ⟨#[]⟩, .int .i64 0, .int .i64 0, .chan (some 6), .chan (some 0), .chan (some 0), .chan (some 0), .chan (some 0)]
def gc8 : List Value := [.int .i64 17, .chan (some 20), .chan (some 28), .chan (some 36), .string ⟨#[]⟩, .int .i64 0, .int .i64 0, .float .f64 0, .string ⟨#[]⟩, .int .i64 0, .int .i64 0, .float .f64 0, .chan (some 5), .chan (some 0), .chan (some 0), .chan (some 0)]
def gc9 : List Value := [.int .i64 17, .chan (some 20), .chan (some 28), .chan (some 36), .string ⟨#[]⟩, .int .i64 0, .int .i64 0, .float .f64 0, .string ⟨#[]⟩, .int .i64 0, .int .i64 0, .float .f64 0, .string ⟨#[]⟩, .chan (some 7), .chan (some 0), .chan (some 0)]
def gc10 : List Value := [.int .i64 17, .chan (some 20), .chan (some 28), .chan (some 36), .string ⟨#[]⟩, .int .i64 0, .int .i64 0, .float .f64 0, .string ⟨#[]⟩, .int .i64 0, .int .i64 0, .float .f64 0, .string ⟨#[]⟩, .chan (some 8), .chan (some 7), .chan (some 0)]
def gc11 : List Value := [.int .i64 17, .chan (some 19), .chan (some 28), .chan (some 36), .string ⟨#[]⟩, .int .i64 0, .int .i64 0, .float .f64 0, .string ⟨#[]⟩, .int .i64 0, .int .i64 0, .float .f64 0, .string ⟨#[]⟩, .chan (some 8), .chan (some 8), .bool true]
def gc12 : List Value := [.int .i64 17, .string ⟨#[]⟩, .chan (some 28), .chan (some 36), .string ⟨#[]⟩, .int .i64 0, .int .i64 0, .float .f64 0, .string ⟨#[]⟩, .int .i64 0, .int .i64 0, .float .f64 0, .string ⟨#[]⟩, .chan (some 8), .chan (some 8), .bool true]
def gc13 : List Value := [.int .i64 17, .chan (some 18), .chan (some 27), .chan (some 36), .string ⟨#[]⟩, .int .i64 0, .int .i64 0, .float .f64 0, .string ⟨#[]⟩, .int .i64 0, .int .i64 0, .float .f64 0, .string ⟨#[]⟩, .chan (some 8), .chan (some 8), .bool true]
def gc14 : List Value := [.int .i64 17, .chan (some 18), .string ⟨#[]⟩, .chan (some 36), .string ⟨#[]⟩, .int .i64 0, .int .i64 0, .float .f64 0, .string ⟨#[]⟩, .int .i64 0, .int .i64 0, .float .f64 0, .string ⟨#[]⟩, .chan (some 8), .chan (some 8), .bool true]
def gc15 : List Value := [.int .i64 17, .chan (some 18), .chan (some 26), .chan (some 35), .string ⟨#[]⟩, .int .i64 0, .int .i64 0, .float .f64 0, .string ⟨#[]⟩, .int .i64 0, .int .i64 0, .float .f64 0, .string ⟨#[]⟩, .chan (some 8), .chan (some 8), .bool true]
def gc16 : List Value := [.int .i64 17, .chan (some 18), .chan (some 26), .string ⟨#[]⟩, .string ⟨#[]⟩, .int .i64 0, .int .i64 0, .float .f64 0, .string ⟨#[]⟩, .int .i64 0, .int .i64 0, .float .f64 0, .string ⟨#[]⟩, .chan (some 8), .chan (some 8), .bool true]
def gc17 : List Value := [.int .i64 17, .chan (some 18), .chan (some 26), .chan (some 34), .string ⟨#[]⟩, .int .i64 0, .int .i64 0, .float .f64 0, .string ⟨#[]⟩, .int .i64 0, .int .i64 0, .float .f64 0, .string ⟨#[]⟩, .chan (some 8), .chan (some 8), .bool true]
def gc18 : List Value := [.int .i64 17, .chan (some 19), .chan (some 28), .chan (some 36), .string ⟨#[]⟩, .int .i64 0, .int .i64 0, .float .f64 0, .string ⟨#[]⟩, .int .i64 0, .int .i64 0, .float .f64 0, .string ⟨#[]⟩, .chan (some 8), .chan (some 8), .bool false]
def gc19 : List Value := [.int .i64 17, .string ⟨#[]⟩, .chan (some 28), .chan (some 36), .string ⟨#[]⟩, .int .i64 0, .int .i64 0, .float .f64 0, .string ⟨#[]⟩, .int .i64 0, .int .i64 0, .float .f64 0, .string ⟨#[]⟩, .chan (some 8), .chan (some 8), .bool false]
def gc20 : List Value := [.int .i64 17, .chan (some 18), .chan (some 27), .chan (some 36), .string ⟨#[]⟩, .int .i64 0, .int .i64 0, .float .f64 0, .string ⟨#[]⟩, .int .i64 0, .int .i64 0, .float .f64 0, .string ⟨#[]⟩, .chan (some 8), .chan (some 8), .bool false]
def gc21 : List Value := [.int .i64 17, .chan (some 18), .string ⟨#[]⟩, .chan (some 36), .string ⟨#[]⟩, .int .i64 0, .int .i64 0, .float .f64 0, .string ⟨#[]⟩, .int .i64 0, .int .i64 0, .float .f64 0, .string ⟨#[]⟩, .chan (some 8), .chan (some 8), .bool false]
def gc22 : List Value := [.int .i64 17, .chan (some 18), .chan (some 26), .chan (some 35), .string ⟨#[]⟩, .int .i64 0, .int .i64 0, .float .f64 0, .string ⟨#[]⟩, .int .i64 0, .int .i64 0, .float .f64 0, .string ⟨#[]⟩, .chan (some 8), .chan (some 8), .bool false]
def gc23 : List Value := [.int .i64 17, .chan (some 18), .chan (some 26), .string ⟨#[]⟩, .string ⟨#[]⟩, .int .i64 0, .int .i64 0, .float .f64 0, .string ⟨#[]⟩, .int .i64 0, .int .i64 0, .float .f64 0, .string ⟨#[]⟩, .chan (some 8), .chan (some 8), .bool false]
def gc24 : List Value := [.int .i64 17, .chan (some 18), .chan (some 26), .chan (some 34), .string ⟨#[]⟩, .int .i64 0, .int .i64 0, .float .f64 0, .string ⟨#[]⟩, .int .i64 0, .int .i64 0, .float .f64 0, .string ⟨#[]⟩, .chan (some 8), .chan (some 8), .bool false]
theorem ga0 : (evalCall Tryz.prog X8 1000 28 #[.agg ⟨gc0⟩] (startN 12)).map (·.1) = some (.bool false) := by kernel_rfl
theorem gb0 : (evalCall Tryz.prog X8 1000 29 #[.agg ⟨gc0⟩] (startN 12)).map (·.1) = some (.bool false) := by kernel_rfl
theorem ga1 : (evalCall Tryz.prog X8 1000 28 #[.agg ⟨gc1⟩] (startN 12)).map (·.1) = some (.bool false) := by kernel_rfl
theorem gb1 : (evalCall Tryz.prog X8 1000 29 #[.agg ⟨gc1⟩] (startN 12)).map (·.1) = some (.bool false) := by kernel_rfl
theorem ga2 : (evalCall Tryz.prog X8 1000 28 #[.agg ⟨gc2⟩] (startN 12)).map (·.1) = some (.bool false) := by kernel_rfl
theorem gb2 : (evalCall Tryz.prog X8 1000 29 #[.agg ⟨gc2⟩] (startN 12)).map (·.1) = some (.bool false) := by kernel_rfl
theorem ga3 : (evalCall Tryz.prog X8 1000 28 #[.agg ⟨gc3⟩] (startN 12)).map (·.1) = some (.bool false) := by kernel_rfl
theorem gb3 : (evalCall Tryz.prog X8 1000 29 #[.agg ⟨gc3⟩] (startN 12)).map (·.1) = some (.bool false) := by kernel_rfl
theorem ga4 : (evalCall Tryz.prog X8 1000 28 #[.agg ⟨gc4⟩] (startN 12)).map (·.1) = some (.bool false) := by kernel_rfl
theorem gb4 : (evalCall Tryz.prog X8 1000 29 #[.agg ⟨gc4⟩] (startN 12)).map (·.1) = some (.bool false) := by kernel_rfl
theorem ga5 : (evalCall Tryz.prog X8 1000 28 #[.agg ⟨gc5⟩] (startN 12)).map (·.1) = some (.bool false) := by kernel_rfl
theorem gb5 : (evalCall Tryz.prog X8 1000 29 #[.agg ⟨gc5⟩] (startN 12)).map (·.1) = some (.bool false) := by kernel_rfl
theorem ga6 : (evalCall Tryz.prog X8 1000 28 #[.agg ⟨gc6⟩] (startN 12)).map (·.1) = some (.bool false) := by kernel_rfl
theorem gb6 : (evalCall Tryz.prog X8 1000 29 #[.agg ⟨gc6⟩] (startN 12)).map (·.1) = some (.bool false) := by kernel_rfl
theorem ga7 : (evalCall Tryz.prog X8 1000 28 #[.agg ⟨gc7⟩] (startN 12)).map (·.1) = some (.bool false) := by kernel_rfl
theorem gb7 : (evalCall Tryz.prog X8 1000 29 #[.agg ⟨gc7⟩] (startN 12)).map (·.1) = some (.bool false) := by kernel_rfl
theorem ga8 : (evalCall Tryz.prog X8 1000 28 #[.agg ⟨gc8⟩] (startN 12)).map (·.1) = some (.bool false) := by kernel_rfl
theorem gb8 : (evalCall Tryz.prog X8 1000 29 #[.agg ⟨gc8⟩] (startN 12)).map (·.1) = some (.bool false) := by kernel_rfl
theorem ga9 : (evalCall Tryz.prog X8 1000 28 #[.agg ⟨gc9⟩] (startN 12)).map (·.1) = some (.bool false) := by kernel_rfl
theorem gb9 : (evalCall Tryz.prog X8 1000 29 #[.agg ⟨gc9⟩] (startN 12)).map (·.1) = some (.bool false) := by kernel_rfl
theorem ga10 : (evalCall Tryz.prog X8 1000 28 #[.agg ⟨gc10⟩] (startN 12)).map (·.1) = some (.bool false) := by kernel_rfl
theorem gb10 : (evalCall Tryz.prog X8 1000 29 #[.agg ⟨gc10⟩] (startN 12)).map (·.1) = some (.bool false) := by kernel_rfl
theorem ga11 : (evalCall Tryz.prog X8 1000 28 #[.agg ⟨gc11⟩] (startN 12)).map (·.1) = some (.bool false) := by kernel_rfl
theorem gb11 : (evalCall Tryz.prog X8 1000 29 #[.agg ⟨gc11⟩] (startN 12)).map (·.1) = some (.bool false) := by kernel_rfl
theorem ga12 : (evalCall Tryz.prog X8 1000 28 #[.agg ⟨gc12⟩] (startN 12)).map (·.1) = some (.bool false) := by kernel_rfl
theorem gb12 : (evalCall Tryz.prog X8 1000 29 #[.agg ⟨gc12⟩] (startN 12)).map (·.1) = some (.bool false) := by kernel_rfl
theorem ga13 : (evalCall Tryz.prog X8 1000 28 #[.agg ⟨gc13⟩] (startN 12)).map (·.1) = some (.bool false) := by kernel_rfl
theorem gb13 : (evalCall Tryz.prog X8 1000 29 #[.agg ⟨gc13⟩] (startN 12)).map (·.1) = some (.bool false) := by kernel_rfl
theorem ga14 : (evalCall Tryz.prog X8 1000 28 #[.agg ⟨gc14⟩] (startN 12)).map (·.1) = some (.bool false) := by kernel_rfl
theorem gb14 : (evalCall Tryz.prog X8 1000 29 #[.agg ⟨gc14⟩] (startN 12)).map (·.1) = some (.bool false) := by kernel_rfl
theorem ga15 : (evalCall Tryz.prog X8 1000 28 #[.agg ⟨gc15⟩] (startN 12)).map (·.1) = some (.bool false) := by kernel_rfl
theorem gb15 : (evalCall Tryz.prog X8 1000 29 #[.agg ⟨gc15⟩] (startN 12)).map (·.1) = some (.bool false) := by kernel_rfl
theorem ga16 : (evalCall Tryz.prog X8 1000 28 #[.agg ⟨gc16⟩] (startN 12)).map (·.1) = some (.bool false) := by kernel_rfl
theorem gb16 : (evalCall Tryz.prog X8 1000 29 #[.agg ⟨gc16⟩] (startN 12)).map (·.1) = some (.bool false) := by kernel_rfl
theorem ga17 : (evalCall Tryz.prog X8 1000 28 #[.agg ⟨gc17⟩] (startN 12)).map (·.1) = some (.bool true) := by kernel_rfl
theorem gb17 : (evalCall Tryz.prog X8 1000 29 #[.agg ⟨gc17⟩] (startN 12)).map (·.1) = some (.bool true) := by kernel_rfl
theorem ga18 : (evalCall Tryz.prog X8 1000 28 #[.agg ⟨gc18⟩] (startN 12)).map (·.1) = some (.bool false) := by kernel_rfl
theorem gb18 : (evalCall Tryz.prog X8 1000 29 #[.agg ⟨gc18⟩] (startN 12)).map (·.1) = some (.bool false) := by kernel_rfl
theorem ga19 : (evalCall Tryz.prog X8 1000 28 #[.agg ⟨gc19⟩] (startN 12)).map (·.1) = some (.bool false) := by kernel_rfl
theorem gb19 : (evalCall Tryz.prog X8 1000 29 #[.agg ⟨gc19⟩] (startN 12)).map (·.1) = some (.bool false) := by kernel_rfl
theorem ga20 : (evalCall Tryz.prog X8 1000 28 #[.agg ⟨gc20⟩] (startN 12)).map (·.1) = some (.bool false) := by kernel_rfl
theorem gb20 : (evalCall Tryz.prog X8 1000 29 #[.agg ⟨gc20⟩] (startN 12)).map (·.1) = some (.bool false) := by kernel_rfl
theorem ga21 : (evalCall Tryz.prog X8 1000 28 #[.agg ⟨gc21⟩] (startN 12)).map (·.1) = some (.bool false) := by kernel_rfl
theorem gb21 : (evalCall Tryz.prog X8 1000 29 #[.agg ⟨gc21⟩] (startN 12)).map (·.1) = some (.bool false) := by kernel_rfl
theorem ga22 : (evalCall Tryz.prog X8 1000 28 #[.agg ⟨gc22⟩] (startN 12)).map (·.1) = some (.bool false) := by kernel_rfl
theorem gb22 : (evalCall Tryz.prog X8 1000 29 #[.agg ⟨gc22⟩] (startN 12)).map (·.1) = some (.bool false) := by kernel_rfl
theorem ga23 : (evalCall Tryz.prog X8 1000 28 #[.agg ⟨gc23⟩] (startN 12)).map (·.1) = some (.bool false) := by kernel_rfl
theorem gb23 : (evalCall Tryz.prog X8 1000 29 #[.agg ⟨gc23⟩] (startN 12)).map (·.1) = some (.bool false) := by kernel_rfl
theorem ga24 : (evalCall Tryz.prog X8 1000 28 #[.agg ⟨gc24⟩] (startN 12)).map (·.1) = some (.bool true) := by kernel_rfl
theorem gb24 : (evalCall Tryz.prog X8 1000 29 #[.agg ⟨gc24⟩] (startN 12)).map (·.1) = some (.bool true) := by kernel_rfl

def muT (β1 β2 β3 : Nat) : Mu := fun id => if id = 1 ∨ id = 2 then some (0, β1, 0) else if id = 5 ∨ id = 6 then some (0, β2, 0) else if id = 9 ∨ id = 10 then some (0, β3, 0) else none

theorem muT_above {β1 β2 β3 : Nat} (id : Nat) (h : 12 ≤ id) : muT β1 β2 β3 id = none := by
  unfold muT
  rw [if_neg (by omega), if_neg (by omega), if_neg (by omega)]

theorem muT_top {β1 β2 β3 m : Nat} (hm : 0 < m) (id b β S : Nat) (h : muT β1 β2 β3 id = some (b, β, S)) : b < m := by
  unfold muT at h
  split at h
  · cases h; exact hm
  · split at h
    · cases h; exact hm
    · split at h
      · cases h; exact hm
      · cases h

section
variable {β1 β2 β3 : Nat}

theorem rt4 : VRel (muT β1 β2 β3) (.chan (some 20)) (.string (dec β1)) := by
  have e : symV 20 β1 = .string (dec β1) := rfl
  rw [← e]
  exact .unk rfl (Tag.sym (b := 0) (S := 0) (by decide) rfl ⟨fun h => absurd h (by decide), fun h => absurd h (by decide)⟩)
theorem rt2 (h : nameB (dec β1) = true) : VRel (muT β1 β2 β3) (.chan (some 18)) (.string (dec β1)) := by
  have e : symV 18 β1 = .string (dec β1) := rfl
  rw [← e]
  exact .unk rfl (Tag.sym (b := 0) (S := 0) (by decide) rfl ⟨fun _ => h, fun h => absurd h (by decide)⟩)
theorem rt3 (h : nameB (dec β1) = false) (h2 : 0 < (dec β1).data.toList.length) : VRel (muT β1 β2 β3) (.chan (some 19)) (.string (dec β1)) := by
  have e : symV 19 β1 = .string (dec β1) := rfl
  rw [← e]
  exact .unk rfl (Tag.sym (b := 0) (S := 0) (by decide) rfl ⟨fun h => absurd h (by decide), fun _ => ⟨h, h2⟩⟩)
theorem rn4 : VRel (muT β1 β2 β3) (.chan (some 28)) (.string (dec β2)) := by
  have e : symV 28 β2 = .string (dec β2) := rfl
  rw [← e]
  exact .unk rfl (Tag.sym (b := 0) (S := 0) (by decide) rfl ⟨fun h => absurd h (by decide), fun h => absurd h (by decide)⟩)
theorem rn2 (h : nameB (dec β2) = true) : VRel (muT β1 β2 β3) (.chan (some 26)) (.string (dec β2)) := by
  have e : symV 26 β2 = .string (dec β2) := rfl
  rw [← e]
  exact .unk rfl (Tag.sym (b := 0) (S := 0) (by decide) rfl ⟨fun _ => h, fun h => absurd h (by decide)⟩)
theorem rn3 (h : nameB (dec β2) = false) (h2 : 0 < (dec β2).data.toList.length) : VRel (muT β1 β2 β3) (.chan (some 27)) (.string (dec β2)) := by
  have e : symV 27 β2 = .string (dec β2) := rfl
  rw [← e]
  exact .unk rfl (Tag.sym (b := 0) (S := 0) (by decide) rfl ⟨fun h => absurd h (by decide), fun _ => ⟨h, h2⟩⟩)
theorem rc4 : VRel (muT β1 β2 β3) (.chan (some 36)) (.string (dec β3)) := by
  have e : symV 36 β3 = .string (dec β3) := rfl
  rw [← e]
  exact .unk rfl (Tag.sym (b := 0) (S := 0) (by decide) rfl ⟨fun h => absurd h (by decide), fun h => absurd h (by decide)⟩)
theorem rc2 (h : nameB (dec β3) = true) : VRel (muT β1 β2 β3) (.chan (some 34)) (.string (dec β3)) := by
  have e : symV 34 β3 = .string (dec β3) := rfl
  rw [← e]
  exact .unk rfl (Tag.sym (b := 0) (S := 0) (by decide) rfl ⟨fun _ => h, fun h => absurd h (by decide)⟩)
theorem rc3 (h : nameB (dec β3) = false) (h2 : 0 < (dec β3).data.toList.length) : VRel (muT β1 β2 β3) (.chan (some 35)) (.string (dec β3)) := by
  have e : symV 35 β3 = .string (dec β3) := rfl
  rw [← e]
  exact .unk rfl (Tag.sym (b := 0) (S := 0) (by decide) rfl ⟨fun h => absurd h (by decide), fun _ => ⟨h, h2⟩⟩)

theorem rU {μ : Mu} {v : Value} (h : v.oneCell' = true) : VRel μ (.chan (some 0)) v := .unk h Tag.zero
theorem r4 {μ : Mu} {n : Int} (h : n ≠ 0) : VRel μ (.chan (some 4)) (.int .i64 n) := .unk rfl (Tag.tok (by decide) (by decide) ⟨(fun _ => ⟨n, rfl, h⟩), (fun h => absurd h (by decide)), (fun h => absurd h (by decide)), (fun h => absurd h (by decide)), (fun h => absurd h (by decide)), (fun h => absurd h (by decide))⟩)
theorem r5 {μ : Mu} {s : ByteArray} (h : 0 < s.data.toList.length) : VRel μ (.chan (some 5)) (.string s) := .unk rfl (Tag.tok (by decide) (by decide) ⟨(fun h => absurd h (by decide)), (fun _ => ⟨s, rfl, h⟩), (fun h => absurd h (by decide)), (fun h => absurd h (by decide)), (fun h => absurd h (by decide)), (fun h => absurd h (by decide))⟩)
theorem r6 {μ : Mu} {n : Nat} (h : n ≠ 0) : VRel μ (.chan (some 6)) (.float .f64 n) := .unk rfl (Tag.tok (by decide) (by decide) ⟨(fun h => absurd h (by decide)), (fun h => absurd h (by decide)), (fun _ => ⟨n, rfl, h⟩), (fun h => absurd h (by decide)), (fun h => absurd h (by decide)), (fun h => absurd h (by decide))⟩)
theorem r7 {μ : Mu} {a : Option Addr} {len cap : Nat} (h : len ≠ 0) : VRel μ (.chan (some 7)) (.slice a len cap) := .unk rfl (Tag.tok (by decide) (by decide) ⟨(fun h => absurd h (by decide)), (fun h => absurd h (by decide)), (fun h => absurd h (by decide)), (fun _ => ⟨a, len, cap, rfl, h⟩), (fun h => absurd h (by decide)), (fun h => absurd h (by decide))⟩)
theorem r8 {μ : Mu} {a : Option Addr} {cap : Nat} : VRel μ (.chan (some 8)) (.slice a 0 cap) := .unk rfl (Tag.tok (by decide) (by decide) ⟨(fun h => absurd h (by decide)), (fun h => absurd h (by decide)), (fun h => absurd h (by decide)), (fun h => absurd h (by decide)), (fun _ => ⟨a, cap, rfl⟩), (fun h => absurd h (by decide))⟩)

theorem good_call {g : FuncId} {cs cs' : List Value} {b : Bool} (h : (evalCall Tryz.prog X8 1000 g #[.agg ⟨cs⟩] (startN 12)).map (·.1) = some (.bool b)) (hl : LR (muT β1 β2 β3) cs cs') (w : World) (hw : 0 < w.heap.size) :
    Calls Tryz.prog g #[.agg ⟨cs'⟩] w fun e w' => e = .returned (.bool b) ∧ Below w.heap.size w w' :=
  run_syms mixed ext8 h (.cons (agg_rel hl) .nil) rfl w muT_above (muT_top hw)

theorem bytes_nil {s : ByteArray} (h : ¬ 0 < s.data.toList.length) : s = ⟨#[]⟩ := by
  refine ByteArray.ext (Array.ext' ?_)
  exact List.eq_nil_of_length_eq_zero (by omega)

/-- both tell this -/
def Both (b : Bool) (x y : Value) : Prop :=
  (∀ w : World, 0 < w.heap.size → Calls Tryz.prog 28 #[x] w fun e w' => e = .returned (.bool b) ∧ Below w.heap.size w w') ∧
  (∀ w : World, 0 < w.heap.size → Calls Tryz.prog 29 #[y] w fun e w' => e = .returned (.bool b) ∧ Below w.heap.size w w')

theorem both {b : Bool} {cs xs ys : List Value} (ha : (evalCall Tryz.prog X8 1000 28 #[.agg ⟨cs⟩] (startN 12)).map (·.1) = some (.bool b)) (hb : (evalCall Tryz.prog X8 1000 29 #[.agg ⟨cs⟩] (startN 12)).map (·.1) = some (.bool b))
    (hx : LR (muT β1 β2 β3) cs xs) (hy : LR (muT β1 β2 β3) cs ys) : Both b (.agg ⟨xs⟩) (.agg ⟨ys⟩) := ⟨fun w hw => good_call ha hx w hw, fun w hw => good_call hb hy w hw⟩
end

theorem good_same (t n c st : ByteArray) (vk vm : Int) (vf : Nat) (vs : ByteArray) (wk wm : Int) (wf : Nat) (ws : ByteArray) (ra ra' : Option Addr) (rl rc rc' : Nat) (la la' : Option Addr) (ll lc lc' : Nat) (f : Bool) :
    ∃ b, Both b (stmtV 17 t n c st vk vm vf vs wk wm wf ws (.slice ra' rl rc') (.slice la' ll lc') f) (stmtV 17 t n c st vk vm vf vs wk wm wf ws (.slice ra rl rc) (.slice la ll lc) f) := by
  obtain ⟨β1, rfl⟩ := dec_surj t
  obtain ⟨β2, rfl⟩ := dec_surj n
  obtain ⟨β3, rfl⟩ := dec_surj c
  have u : ∀ {μ : Mu} (v : Value), v.oneCell' = true → VRel μ (.chan (some 0)) v := fun v h => rU h
  have g0 : ∀ {μ : Mu} (v : Value), gr v = true → VRel μ v v := fun v h => .of_gr h
  by_cases hst : 0 < st.data.toList.length
  · exact ⟨false, both (β1 := β1) (β2 := β2) (β3 := β3) ga0 gb0 (.cons (g0 _ rfl) (.cons (rt4) (.cons (rn4) (.cons (rc4) (.cons (r5 (by assumption)) (.cons (u _ rfl) (.cons (u _ rfl) (.cons (u _ rfl) (.cons (u _ rfl) (.cons (u _ rfl) (.cons (u _ rfl) (.cons (u _ rfl) (.cons (u _ rfl) (.cons (u _ rfl) (.cons (u _ rfl) (.cons (u _ rfl) (.nil))))))))))))))))) (.cons (g0 _ rfl) (.cons (rt4) (.cons (rn4) (.cons (rc4) (.cons (r5 (by assumption)) (.cons (u _ rfl) (.cons (u _ rfl) (.cons (u _ rfl) (.cons (u _ rfl) (.cons (u _ rfl) (.cons (u _ rfl) (.cons (u _ rfl) (.cons (u _ rfl) (.cons (u _ rfl) (.cons (u _ rfl) (.cons (u _ rfl) (.nil)))))))))))))))))⟩
  obtain rfl := bytes_nil hst
  by_cases hvk : vk ≠ 0
  · exact ⟨false, both (β1 := β1) (β2 := β2) (β3 := β3) ga1 gb1 (.cons (g0 _ rfl) (.cons (rt4) (.cons (rn4) (.cons (rc4) (.cons (g0 _ rfl) (.cons (r4 (by assumption)) (.cons (u _ rfl) (.cons (u _ rfl) (.cons (u _ rfl) (.cons (u _ rfl) (.cons (u _ rfl) (.cons (u _ rfl) (.cons (u _ rfl) (.cons (u _ rfl) (.cons (u _ rfl) (.cons (u _ rfl) (.nil))))))))))))))))) (.cons (g0 _ rfl) (.cons (rt4) (.cons (rn4) (.cons (rc4) (.cons (g0 _ rfl) (.cons (r4 (by assumption)) (.cons (u _ rfl) (.cons (u _ rfl) (.cons (u _ rfl) (.cons (u _ rfl) (.cons (u _ rfl) (.cons (u _ rfl) (.cons (u _ rfl) (.cons (u _ rfl) (.cons (u _ rfl) (.cons (u _ rfl) (.nil)))))))))))))))))⟩
  obtain rfl : vk = 0 := Classical.not_not.1 hvk
  by_cases hvm : vm ≠ 0
  · exact ⟨false, both (β1 := β1) (β2 := β2) (β3 := β3) ga2 gb2 (.cons (g0 _ rfl) (.cons (rt4) (.cons (rn4) (.cons (rc4) (.cons (g0 _ rfl) (.cons (g0 _ rfl) (.cons (r4 (by assumption)) (.cons (u _ rfl) (.cons (u _ rfl) (.cons (u _ rfl) (.cons (u _ rfl) (.cons (u _ rfl) (.cons (u _ rfl) (.cons (u _ rfl) (.cons (u _ rfl) (.cons (u _ rfl) (.nil))))))))))))))))) (.cons (g0 _ rfl) (.cons (rt4) (.cons (rn4) (.cons (rc4) (.cons (g0 _ rfl) (.cons (g0 _ rfl) (.cons (r4 (by assumption)) (.cons (u _ rfl) (.cons (u _ rfl) (.cons (u _ rfl) (.cons (u _ rfl) (.cons (u _ rfl) (.cons (u _ rfl) (.cons (u _ rfl) (.cons (u _ rfl) (.cons (u _ rfl) (.nil)))))))))))))))))⟩
  obtain rfl : vm = 0 := Classical.not_not.1 hvm
  by_cases hvf : vf ≠ 0
  · exact ⟨false, both (β1 := β1) (β2 := β2) (β3 := β3) ga3 gb3 (.cons (g0 _ rfl) (.cons (rt4) (.cons (rn4) (.cons (rc4) (.cons (g0 _ rfl) (.cons (g0 _ rfl) (.cons (g0 _ rfl) (.cons (r6 (by assumption)) (.cons (u _ rfl) (.cons (u _ rfl) (.cons (u _ rfl) (.cons (u _ rfl) (.cons (u _ rfl) (.cons (u _ rfl) (.cons (u _ rfl) (.cons (u _ rfl) (.nil))))))))))))))))) (.cons (g0 _ rfl) (.cons (rt4) (.cons (rn4) (.cons (rc4) (.cons (g0 _ rfl) (.cons (g0 _ rfl) (.cons (g0 _ rfl) (.cons (r6 (by assumption)) (.cons (u _ rfl) (.cons (u _ rfl) (.cons (u _ rfl) (.cons (u _ rfl) (.cons (u _ rfl) (.cons (u _ rfl) (.cons (u _ rfl) (.cons (u _ rfl) (.nil)))))))))))))))))⟩
  obtain rfl : vf = 0 := Classical.not_not.1 hvf
  by_cases hvs : 0 < vs.data.toList.length
  · exact ⟨false, both (β1 := β1) (β2 := β2) (β3 := β3) ga4 gb4 (.cons (g0 _ rfl) (.cons (rt4) (.cons (rn4) (.cons (rc4) (.cons (g0 _ rfl) (.cons (g0 _ rfl) (.cons (g0 _ rfl) (.cons (g0 _ rfl) (.cons (r5 (by assumption)) (.cons (u _ rfl) (.cons (u _ rfl) (.cons (u _ rfl) (.cons (u _ rfl) (.cons (u _ rfl) (.cons (u _ rfl) (.cons (u _ rfl) (.nil))))))))))))))))) (.cons (g0 _ rfl) (.cons (rt4) (.cons (rn4) (.cons (rc4) (.cons (g0 _ rfl) (.cons (g0 _ rfl) (.cons (g0 _ rfl) (.cons (g0 _ rfl) (.cons (r5 (by assumption)) (.cons (u _ rfl) (.cons (u _ rfl) (.cons (u _ rfl) (.cons (u _ rfl) (.cons (u _ rfl) (.cons (u _ rfl) (.cons (u _ rfl) (.nil)))))))))))))))))⟩
  obtain rfl := bytes_nil hvs
  by_cases hwk : wk ≠ 0
  · exact ⟨false, both (β1 := β1) (β2 := β2) (β3 := β3) ga5 gb5 (.cons (g0 _ rfl) (.cons (rt4) (.cons (rn4) (.cons (rc4) (.cons (g0 _ rfl) (.cons (g0 _ rfl) (.cons (g0 _ rfl) (.cons (g0 _ rfl) (.cons (g0 _ rfl) (.cons (r4 (by assumption)) (.cons (u _ rfl) (.cons (u _ rfl) (.cons (u _ rfl) (.cons (u _ rfl) (.cons (u _ rfl) (.cons (u _ rfl) (.nil))))))))))))))))) (.cons (g0 _ rfl) (.cons (rt4) (.cons (rn4) (.cons (rc4) (.cons (g0 _ rfl) (.cons (g0 _ rfl) (.cons (g0 _ rfl) (.cons (g0 _ rfl) (.cons (g0 _ rfl) (.cons (r4 (by assumption)) (.cons (u _ rfl) (.cons (u _ rfl) (.cons (u _ rfl) (.cons (u _ rfl) (.cons (u _ rfl) (.cons (u _ rfl) (.nil)))))))))))))))))⟩
  obtain rfl : wk = 0 := Classical.not_not.1 hwk
  by_cases hwm : wm ≠ 0
  · exact ⟨false, both (β1 := β1) (β2 := β2) (β3 := β3) ga6 gb6 (.cons (g0 _ rfl) (.cons (rt4) (.cons (rn4) (.cons (rc4) (.cons (g0 _ rfl) (.cons (g0 _ rfl) (.cons (g0 _ rfl) (.cons (g0 _ rfl) (.cons (g0 _ rfl) (.cons (g0 _ rfl) (.cons (r4 (by assumption)) (.cons (u _ rfl) (.cons (u _ rfl) (.cons (u _ rfl) (.cons (u _ rfl) (.cons (u _ rfl) (.nil))))))))))))))))) (.cons (g0 _ rfl) (.cons (rt4) (.cons (rn4) (.cons (rc4) (.cons (g0 _ rfl) (.cons (g0 _ rfl) (.cons (g0 _ rfl) (.cons (g0 _ rfl) (.cons (g0 _ rfl) (.cons (g0 _ rfl) (.cons (r4 (by assumption)) (.cons (u _ rfl) (.cons (u _ rfl) (.cons (u _ rfl) (.cons (u _ rfl) (.cons (u _ rfl) (.nil)))))))))))))))))⟩
  obtain rfl : wm = 0 := Classical.not_not.1 hwm
  by_cases hwf : wf ≠ 0
  · exact ⟨false, both (β1 := β1) (β2 := β2) (β3 := β3) ga7 gb7 (.cons (g0 _ rfl) (.cons (rt4) (.cons (rn4) (.cons (rc4) (.cons (g0 _ rfl) (.cons (g0 _ rfl) (.cons (g0 _ rfl) (.cons (g0 _ rfl) (.cons (g0 _ rfl) (.cons (g0 _ rfl) (.cons (g0 _ rfl) (.cons (r6 (by assumption)) (.cons (u _ rfl) (.cons (u _ rfl) (.cons (u _ rfl) (.cons (u _ rfl) (.nil))))))))))))))))) (.cons (g0 _ rfl) (.cons (rt4) (.cons (rn4) (.cons (rc4) (.cons (g0 _ rfl) (.cons (g0 _ rfl) (.cons (g0 _ rfl) (.cons (g0 _ rfl) (.cons (g0 _ rfl) (.cons (g0 _ rfl) (.cons (g0 _ rfl) (.cons (r6 (by assumption)) (.cons (u _ rfl) (.cons (u _ rfl) (.cons (u _ rfl) (.cons (u _ rfl) (.nil)))))))))))))))))⟩
  obtain rfl : wf = 0 := Classical.not_not.1 hwf
  by_cases hws : 0 < ws.data.toList.length
  · exact ⟨false, both (β1 := β1) (β2 := β2) (β3 := β3) ga8 gb8 (.cons (g0 _ rfl) (.cons (rt4) (.cons (rn4) (.cons (rc4) (.cons (g0 _ rfl) (.cons (g0 _ rfl) (.cons (g0 _ rfl) (.cons (g0 _ rfl) (.cons (g0 _ rfl) (.cons (g0 _ rfl) (.cons (g0 _ rfl) (.cons (g0 _ rfl) (.cons (r5 (by assumption)) (.cons (u _ rfl) (.cons (u _ rfl) (.cons (u _ rfl) (.nil))))))))))))))))) (.cons (g0 _ rfl) (.cons (rt4) (.cons (rn4) (.cons (rc4) (.cons (g0 _ rfl) (.cons (g0 _ rfl) (.cons (g0 _ rfl) (.cons (g0 _ rfl) (.cons (g0 _ rfl) (.cons (g0 _ rfl) (.cons (g0 _ rfl) (.cons (g0 _ rfl) (.cons (r5 (by assumption)) (.cons (u _ rfl) (.cons (u _ rfl) (.cons (u _ rfl) (.nil)))))))))))))))))⟩
  obtain rfl := bytes_nil hws
  by_cases hrl : rl ≠ 0
  · exact ⟨false, both (β1 := β1) (β2 := β2) (β3 := β3) ga9 gb9 (.cons (g0 _ rfl) (.cons (rt4) (.cons (rn4) (.cons (rc4) (.cons (g0 _ rfl) (.cons (g0 _ rfl) (.cons (g0 _ rfl) (.cons (g0 _ rfl) (.cons (g0 _ rfl) (.cons (g0 _ rfl) (.cons (g0 _ rfl) (.cons (g0 _ rfl) (.cons (g0 _ rfl) (.cons (r7 (by assumption)) (.cons (u _ rfl) (.cons (u _ rfl) (.nil))))))))))))))))) (.cons (g0 _ rfl) (.cons (rt4) (.cons (rn4) (.cons (rc4) (.cons (g0 _ rfl) (.cons (g0 _ rfl) (.cons (g0 _ rfl) (.cons (g0 _ rfl) (.cons (g0 _ rfl) (.cons (g0 _ rfl) (.cons (g0 _ rfl) (.cons (g0 _ rfl) (.cons (g0 _ rfl) (.cons (r7 (by assumption)) (.cons (u _ rfl) (.cons (u _ rfl) (.nil)))))))))))))))))⟩
  obtain rfl : rl = 0 := Classical.not_not.1 hrl
  by_cases hll : ll ≠ 0
  · exact ⟨false, both (β1 := β1) (β2 := β2) (β3 := β3) ga10 gb10 (.cons (g0 _ rfl) (.cons (rt4) (.cons (rn4) (.cons (rc4) (.cons (g0 _ rfl) (.cons (g0 _ rfl) (.cons (g0 _ rfl) (.cons (g0 _ rfl) (.cons (g0 _ rfl) (.cons (g0 _ rfl) (.cons (g0 _ rfl) (.cons (g0 _ rfl) (.cons (g0 _ rfl) (.cons (r8) (.cons (r7 (by assumption)) (.cons (u _ rfl) (.nil))))))))))))))))) (.cons (g0 _ rfl) (.cons (rt4) (.cons (rn4) (.cons (rc4) (.cons (g0 _ rfl) (.cons (g0 _ rfl) (.cons (g0 _ rfl) (.cons (g0 _ rfl) (.cons (g0 _ rfl) (.cons (g0 _ rfl) (.cons (g0 _ rfl) (.cons (g0 _ rfl) (.cons (g0 _ rfl) (.cons (r8) (.cons (r7 (by assumption)) (.cons (u _ rfl) (.nil)))))))))))))))))⟩
  obtain rfl : ll = 0 := Classical.not_not.1 hll
  cases f
  · by_cases ht : nameB (dec β1) = true
    · by_cases hn : nameB (dec β2) = true
      · by_cases hc : nameB (dec β3) = true
        · exact ⟨true, both (β1 := β1) (β2 := β2) (β3 := β3) ga24 gb24 (.cons (g0 _ rfl) (.cons (rt2 (by assumption)) (.cons (rn2 (by assumption)) (.cons (rc2 (by assumption)) (.cons (g0 _ rfl) (.cons (g0 _ rfl) (.cons (g0 _ rfl) (.cons (g0 _ rfl) (.cons (g0 _ rfl) (.cons (g0 _ rfl) (.cons (g0 _ rfl) (.cons (g0 _ rfl) (.cons (g0 _ rfl) (.cons (r8) (.cons (r8) (.cons (g0 _ rfl) (.nil))))))))))))))))) (.cons (g0 _ rfl) (.cons (rt2 (by assumption)) (.cons (rn2 (by assumption)) (.cons (rc2 (by assumption)) (.cons (g0 _ rfl) (.cons (g0 _ rfl) (.cons (g0 _ rfl) (.cons (g0 _ rfl) (.cons (g0 _ rfl) (.cons (g0 _ rfl) (.cons (g0 _ rfl) (.cons (g0 _ rfl) (.cons (g0 _ rfl) (.cons (r8) (.cons (r8) (.cons (g0 _ rfl) (.nil)))))))))))))))))⟩
        have hc : nameB (dec β3) = false := by simpa using hc
        by_cases h0 : 0 < (dec β3).data.toList.length
        · exact ⟨false, both (β1 := β1) (β2 := β2) (β3 := β3) ga22 gb22 (.cons (g0 _ rfl) (.cons (rt2 (by assumption)) (.cons (rn2 (by assumption)) (.cons (rc3 (by assumption) (by assumption)) (.cons (g0 _ rfl) (.cons (g0 _ rfl) (.cons (g0 _ rfl) (.cons (g0 _ rfl) (.cons (g0 _ rfl) (.cons (g0 _ rfl) (.cons (g0 _ rfl) (.cons (g0 _ rfl) (.cons (g0 _ rfl) (.cons (r8) (.cons (r8) (.cons (g0 _ rfl) (.nil))))))))))))))))) (.cons (g0 _ rfl) (.cons (rt2 (by assumption)) (.cons (rn2 (by assumption)) (.cons (rc3 (by assumption) (by assumption)) (.cons (g0 _ rfl) (.cons (g0 _ rfl) (.cons (g0 _ rfl) (.cons (g0 _ rfl) (.cons (g0 _ rfl) (.cons (g0 _ rfl) (.cons (g0 _ rfl) (.cons (g0 _ rfl) (.cons (g0 _ rfl) (.cons (r8) (.cons (r8) (.cons (g0 _ rfl) (.nil)))))))))))))))))⟩
        rw [bytes_nil h0]
        exact ⟨false, both (β1 := β1) (β2 := β2) (β3 := β3) ga23 gb23 (.cons (g0 _ rfl) (.cons (rt2 (by assumption)) (.cons (rn2 (by assumption)) (.cons (g0 _ rfl) (.cons (g0 _ rfl) (.cons (g0 _ rfl) (.cons (g0 _ rfl) (.cons (g0 _ rfl) (.cons (g0 _ rfl) (.cons (g0 _ rfl) (.cons (g0 _ rfl) (.cons (g0 _ rfl) (.cons (g0 _ rfl) (.cons (r8) (.cons (r8) (.cons (g0 _ rfl) (.nil))))))))))))))))) (.cons (g0 _ rfl) (.cons (rt2 (by assumption)) (.cons (rn2 (by assumption)) (.cons (g0 _ rfl) (.cons (g0 _ rfl) (.cons (g0 _ rfl) (.cons (g0 _ rfl) (.cons (g0 _ rfl) (.cons (g0 _ rfl) (.cons (g0 _ rfl) (.cons (g0 _ rfl) (.cons (g0 _ rfl) (.cons (g0 _ rfl) (.cons (r8) (.cons (r8) (.cons (g0 _ rfl) (.nil)))))))))))))))))⟩
      have hn : nameB (dec β2) = false := by simpa using hn
      by_cases h0 : 0 < (dec β2).data.toList.length
      · exact ⟨false, both (β1 := β1) (β2 := β2) (β3 := β3) ga20 gb20 (.cons (g0 _ rfl) (.cons (rt2 (by assumption)) (.cons (rn3 (by assumption) (by assumption)) (.cons (rc4) (.cons (g0 _ rfl) (.cons (g0 _ rfl) (.cons (g0 _ rfl) (.cons (g0 _ rfl) (.cons (g0 _ rfl) (.cons (g0 _ rfl) (.cons (g0 _ rfl) (.cons (g0 _ rfl) (.cons (g0 _ rfl) (.cons (r8) (.cons (r8) (.cons (g0 _ rfl) (.nil))))))))))))))))) (.cons (g0 _ rfl) (.cons (rt2 (by assumption)) (.cons (rn3 (by assumption) (by assumption)) (.cons (rc4) (.cons (g0 _ rfl) (.cons (g0 _ rfl) (.cons (g0 _ rfl) (.cons (g0 _ rfl) (.cons (g0 _ rfl) (.cons (g0 _ rfl) (.cons (g0 _ rfl) (.cons (g0 _ rfl) (.cons (g0 _ rfl) (.cons (r8) (.cons (r8) (.cons (g0 _ rfl) (.nil)))))))))))))))))⟩
      rw [bytes_nil h0]
      exact ⟨false, both (β1 := β1) (β2 := β2) (β3 := β3) ga21 gb21 (.cons (g0 _ rfl) (.cons (rt2 (by assumption)) (.cons (g0 _ rfl) (.cons (rc4) (.cons (g0 _ rfl) (.cons (g0 _ rfl) (.cons (g0 _ rfl) (.cons (g0 _ rfl) (.cons (g0 _ rfl) (.cons (g0 _ rfl) (.cons (g0 _ rfl) (.cons (g0 _ rfl) (.cons (g0 _ rfl) (.cons (r8) (.cons (r8) (.cons (g0 _ rfl) (.nil))))))))))))))))) (.cons (g0 _ rfl) (.cons (rt2 (by assumption)) (.cons (g0 _ rfl) (.cons (rc4) (.cons (g0 _ rfl) (.cons (g0 _ rfl) (.cons (g0 _ rfl) (.cons (g0 _ rfl) (.cons (g0 _ rfl) (.cons (g0 _ rfl) (.cons (g0 _ rfl) (.cons (g0 _ rfl) (.cons (g0 _ rfl) (.cons (r8) (.cons (r8) (.cons (g0 _ rfl) (.nil)))))))))))))))))⟩
    have ht : nameB (dec β1) = false := by simpa using ht
    by_cases h0 : 0 < (dec β1).data.toList.length
    · exact ⟨false, both (β1 := β1) (β2 := β2) (β3 := β3) ga18 gb18 (.cons (g0 _ rfl) (.cons (rt3 (by assumption) (by assumption)) (.cons (rn4) (.cons (rc4) (.cons (g0 _ rfl) (.cons (g0 _ rfl) (.cons (g0 _ rfl) (.cons (g0 _ rfl) (.cons (g0 _ rfl) (.cons (g0 _ rfl) (.cons (g0 _ rfl) (.cons (g0 _ rfl) (.cons (g0 _ rfl) (.cons (r8) (.cons (r8) (.cons (g0 _ rfl) (.nil))))))))))))))))) (.cons (g0 _ rfl) (.cons (rt3 (by assumption) (by assumption)) (.cons (rn4) (.cons (rc4) (.cons (g0 _ rfl) (.cons (g0 _ rfl) (.cons (g0 _ rfl) (.cons (g0 _ rfl) (.cons (g0 _ rfl) (.cons (g0 _ rfl) (.cons (g0 _ rfl) (.cons (g0 _ rfl) (.cons (g0 _ rfl) (.cons (r8) (.cons (r8) (.cons (g0 _ rfl) (.nil)))))))))))))))))⟩
    rw [bytes_nil h0]
    exact ⟨false, both (β1 := β1) (β2 := β2) (β3 := β3) ga19 gb19 (.cons (g0 _ rfl) (.cons (g0 _ rfl) (.cons (rn4) (.cons (rc4) (.cons (g0 _ rfl) (.cons (g0 _ rfl) (.cons (g0 _ rfl) (.cons (g0 _ rfl) (.cons (g0 _ rfl) (.cons (g0 _ rfl) (.cons (g0 _ rfl) (.cons (g0 _ rfl) (.cons (g0 _ rfl) (.cons (r8) (.cons (r8) (.cons (g0 _ rfl) (.nil))))))))))))))))) (.cons (g0 _ rfl) (.cons (g0 _ rfl) (.cons (rn4) (.cons (rc4) (.cons (g0 _ rfl) (.cons (g0 _ rfl) (.cons (g0 _ rfl) (.cons (g0 _ rfl) (.cons (g0 _ rfl) (.cons (g0 _ rfl) (.cons (g0 _ rfl) (.cons (g0 _ rfl) (.cons (g0 _ rfl) (.cons (r8) (.cons (r8) (.cons (g0 _ rfl) (.nil)))))))))))))))))⟩
  · by_cases ht : nameB (dec β1) = true
    · by_cases hn : nameB (dec β2) = true
      · by_cases hc : nameB (dec β3) = true
        · exact ⟨true, both (β1 := β1) (β2 := β2) (β3 := β3) ga17 gb17 (.cons (g0 _ rfl) (.cons (rt2 (by assumption)) (.cons (rn2 (by assumption)) (.cons (rc2 (by assumption)) (.cons (g0 _ rfl) (.cons (g0 _ rfl) (.cons (g0 _ rfl) (.cons (g0 _ rfl) (.cons (g0 _ rfl) (.cons (g0 _ rfl) (.cons (g0 _ rfl) (.cons (g0 _ rfl) (.cons (g0 _ rfl) (.cons (r8) (.cons (r8) (.cons (g0 _ rfl) (.nil))))))))))))))))) (.cons (g0 _ rfl) (.cons (rt2 (by assumption)) (.cons (rn2 (by assumption)) (.cons (rc2 (by assumption)) (.cons (g0 _ rfl) (.cons (g0 _ rfl) (.cons (g0 _ rfl) (.cons (g0 _ rfl) (.cons (g0 _ rfl) (.cons (g0 _ rfl) (.cons (g0 _ rfl) (.cons (g0 _ rfl) (.cons (g0 _ rfl) (.cons (r8) (.cons (r8) (.cons (g0 _ rfl) (.nil)))))))))))))))))⟩
        have hc : nameB (dec β3) = false := by simpa using hc
        by_cases h0 : 0 < (dec β3).data.toList.length
        · exact ⟨false, both (β1 := β1) (β2 := β2) (β3 := β3) ga15 gb15 (.cons (g0 _ rfl) (.cons (rt2 (by assumption)) (.cons (rn2 (by assumption)) (.cons (rc3 (by assumption) (by assumption)) (.cons (g0 _ rfl) (.cons (g0 _ rfl) (.cons (g0 _ rfl) (.cons (g0 _ rfl) (.cons (g0 _ rfl) (.cons (g0 _ rfl) (.cons (g0 _ rfl) (.cons (g0 _ rfl) (.cons (g0 _ rfl) (.cons (r8) (.cons (r8) (.cons (g0 _ rfl) (.nil))))))))))))))))) (.cons (g0 _ rfl) (.cons (rt2 (by assumption)) (.cons (rn2 (by assumption)) (.cons (rc3 (by assumption) (by assumption)) (.cons (g0 _ rfl) (.cons (g0 _ rfl) (.cons (g0 _ rfl) (.cons (g0 _ rfl) (.cons (g0 _ rfl) (.cons (g0 _ rfl) (.cons (g0 _ rfl) (.cons (g0 _ rfl) (.cons (g0 _ rfl) (.cons (r8) (.cons (r8) (.cons (g0 _ rfl) (.nil)))))))))))))))))⟩
        rw [bytes_nil h0]
        exact ⟨false, both (β1 := β1) (β2 := β2) (β3 := β3) ga16 gb16 (.cons (g0 _ rfl) (.cons (rt2 (by assumption)) (.cons (rn2 (by assumption)) (.cons (g0 _ rfl) (.cons (g0 _ rfl) (.cons (g0 _ rfl) (.cons (g0 _ rfl) (.cons (g0 _ rfl) (.cons (g0 _ rfl) (.cons (g0 _ rfl) (.cons (g0 _ rfl) (.cons (g0 _ rfl) (.cons (g0 _ rfl) (.cons (r8) (.cons (r8) (.cons (g0 _ rfl) (.nil))))))))))))))))) (.cons (g0 _ rfl) (.cons (rt2 (by assumption)) (.cons (rn2 (by assumption)) (.cons (g0 _ rfl) (.cons (g0 _ rfl) (.cons (g0 _ rfl) (.cons (g0 _ rfl) (.cons (g0 _ rfl) (.cons (g0 _ rfl) (.cons (g0 _ rfl) (.cons (g0 _ rfl) (.cons (g0 _ rfl) (.cons (g0 _ rfl) (.cons (r8) (.cons (r8) (.cons (g0 _ rfl) (.nil)))))))))))))))))⟩
      have hn : nameB (dec β2) = false := by simpa using hn
      by_cases h0 : 0 < (dec β2).data.toList.length
      · exact ⟨false, both (β1 := β1) (β2 := β2) (β3 := β3) ga13 gb13 (.cons (g0 _ rfl) (.cons (rt2 (by assumption)) (.cons (rn3 (by assumption) (by assumption)) (.cons (rc4) (.cons (g0 _ rfl) (.cons (g0 _ rfl) (.cons (g0 _ rfl) (.cons (g0 _ rfl) (.cons (g0 _ rfl) (.cons (g0 _ rfl) (.cons (g0 _ rfl) (.cons (g0 _ rfl) (.cons (g0 _ rfl) (.cons (r8) (.cons (r8) (.cons (g0 _ rfl) (.nil))))))))))))))))) (.cons (g0 _ rfl) (.cons (rt2 (by assumption)) (.cons (rn3 (by assumption) (by assumption)) (.cons (rc4) (.cons (g0 _ rfl) (.cons (g0 _ rfl) (.cons (g0 _ rfl) (.cons (g0 _ rfl) (.cons (g0 _ rfl) (.cons (g0 _ rfl) (.cons (g0 _ rfl) (.cons (g0 _ rfl) (.cons (g0 _ rfl) (.cons (r8) (.cons (r8) (.cons (g0 _ rfl) (.nil)))))))))))))))))⟩
      rw [bytes_nil h0]
      exact ⟨false, both (β1 := β1) (β2 := β2) (β3 := β3) ga14 gb14 (.cons (g0 _ rfl) (.cons (rt2 (by assumption)) (.cons (g0 _ rfl) (.cons (rc4) (.cons (g0 _ rfl) (.cons (g0 _ rfl) (.cons (g0 _ rfl) (.cons (g0 _ rfl) (.cons (g0 _ rfl) (.cons (g0 _ rfl) (.cons (g0 _ rfl) (.cons (g0 _ rfl) (.cons (g0 _ rfl) (.cons (r8) (.cons (r8) (.cons (g0 _ rfl) (.nil))))))))))))))))) (.cons (g0 _ rfl) (.cons (rt2 (by assumption)) (.cons (g0 _ rfl) (.cons (rc4) (.cons (g0 _ rfl) (.cons (g0 _ rfl) (.cons (g0 _ rfl) (.cons (g0 _ rfl) (.cons (g0 _ rfl) (.cons (g0 _ rfl) (.cons (g0 _ rfl) (.cons (g0 _ rfl) (.cons (g0 _ rfl) (.cons (r8) (.cons (r8) (.cons (g0 _ rfl) (.nil)))))))))))))))))⟩
    have ht : nameB (dec β1) = false := by simpa using ht
    by_cases h0 : 0 < (dec β1).data.toList.length
    · exact ⟨false, both (β1 := β1) (β2 := β2) (β3 := β3) ga11 gb11 (.cons (g0 _ rfl) (.cons (rt3 (by assumption) (by assumption)) (.cons (rn4) (.cons (rc4) (.cons (g0 _ rfl) (.cons (g0 _ rfl) (.cons (g0 _ rfl) (.cons (g0 _ rfl) (.cons (g0 _ rfl) (.cons (g0 _ rfl) (.cons (g0 _ rfl) (.cons (g0 _ rfl) (.cons (g0 _ rfl) (.cons (r8) (.cons (r8) (.cons (g0 _ rfl) (.nil))))))))))))))))) (.cons (g0 _ rfl) (.cons (rt3 (by assumption) (by assumption)) (.cons (rn4) (.cons (rc4) (.cons (g0 _ rfl) (.cons (g0 _ rfl) (.cons (g0 _ rfl) (.cons (g0 _ rfl) (.cons (g0 _ rfl) (.cons (g0 _ rfl) (.cons (g0 _ rfl) (.cons (g0 _ rfl) (.cons (g0 _ rfl) (.cons (r8) (.cons (r8) (.cons (g0 _ rfl) (.nil)))))))))))))))))⟩
    rw [bytes_nil h0]
    exact ⟨false, both (β1 := β1) (β2 := β2) (β3 := β3) ga12 gb12 (.cons (g0 _ rfl) (.cons (g0 _ rfl) (.cons (rn4) (.cons (rc4) (.cons (g0 _ rfl) (.cons (g0 _ rfl) (.cons (g0 _ rfl) (.cons (g0 _ rfl) (.cons (g0 _ rfl) (.cons (g0 _ rfl) (.cons (g0 _ rfl) (.cons (g0 _ rfl) (.cons (g0 _ rfl) (.cons (r8) (.cons (r8) (.cons (g0 _ rfl) (.nil))))))))))))))))) (.cons (g0 _ rfl) (.cons (g0 _ rfl) (.cons (rn4) (.cons (rc4) (.cons (g0 _ rfl) (.cons (g0 _ rfl) (.cons (g0 _ rfl) (.cons (g0 _ rfl) (.cons (g0 _ rfl) (.cons (g0 _ rfl) (.cons (g0 _ rfl) (.cons (g0 _ rfl) (.cons (g0 _ rfl) (.cons (r8) (.cons (r8) (.cons (g0 _ rfl) (.nil)))))))))))))))))⟩

end Go.Proofs.YtpclafidblbicaaGreatDoor
