/-
  liverylaw26.EngineNone returns true for every input, and its arguments read as they did: the row, and the card that ties what it lists.
  Conditions: none beyond the row's own (the two listed tables of unicode/utf8 lie as the program's text lays them; the card ties them).
-/
import Derived.Test.YtligooejegmmpaaGreatDoorTie
import Derived.Test.YtligooejegmmpaaGreatDoorCards
import Derived.Test.YtligooejegmmpaaGreatDoorEn
import Derived.Test.YtligooejegmmpaaGreatDoorGoes
import Derived.Test.YtligooejegmmpaaGreatDoorEnjd
import Derived.ProofKit
import Derived.OpenShut
import Derived.LaidMore
import Derived.Lay
import Derived.Carry
import Derived.SevenTiedAt
import Derived.Stop.Joined
import Derived.Lib.SmallJoins
namespace Go.Proofs.YtligooejegmmpaaGreatDoor.engineNone
open Go.ChangeShapes Go.WideShapes Go.ChangeAt Go.RowKit Go.Joins
open Go.Proofs.YtligooejegmmpaaGreatDoor

theorem own : ownKnob Tryz.prog.godebug = none := by kernel_rfl
theorem laidOut : laidOutB Tryz.prog = true := by kernel_rfl

set_option maxRecDepth 100000 in
theorem shape0 {H : Type} {enc : TypeId × Value → H} {W : World} {base : Nat} {v0 : Value} {d0 : DataW H} {p0 : List MemPlace} (hv : Value.okWide Tryz.prog W .any base 45 v0) (h0 : DataW.Trod enc Tryz.prog W 0 (fun _ => true) true 45 v0 d0 p0) :
    ∃ (c : Int) (s : ByteArray), v0 = .agg #[.int .i64 c, .string s] := by
  obtain ⟨c0, c1, y0, y1, m, e, _, _, hy0, hy1⟩ := open_agg2 Tryz.underlying45 (by kernel_rfl) (by kernel_rfl) hv h0
  obtain ⟨a, e0, _⟩ := DataW.trod_int Tryz.underlying3 hy0
  obtain ⟨b, e1, _⟩ := DataW.trod_string Tryz.underlying9 hy1
  simp only [List.cons.injEq, and_true] at e0 e1
  subst e0 e1
  exact ⟨a, b, e⟩

set_option maxRecDepth 100000 in
theorem shape1 {H : Type} {enc : TypeId × Value → H} {W : World} {base : Nat} {v1 : Value} {d1 : DataW H} {p1 : List MemPlace} (hv : Value.okWide Tryz.prog W .any base 46 v1) (h1 : DataW.Trod enc Tryz.prog W 0 (fun _ => true) true 46 v1 d1 p1) :
    ∃ n0 n1 n2 n3 : Int, v1 = .agg #[.int .i64 n0, .int .i64 n1, .int .i64 n2, .int .i64 n3] := by
  simp only [Value.okWide, Tryz.underlying46] at hv
  obtain ⟨⟨l⟩, rfl, hsz, _⟩ := hv
  obtain ⟨fuel, hf⟩ := h1
  obtain ⟨xs, m, _, _, hcl, hxl, hel⟩ := DataW.trod_array Tryz.underlying46 hf
  have c1 : Tryz.prog.cellsOf 3 = 1 := by kernel_rfl
  have c4 : Tryz.prog.cellsOf 46 = 4 := by kernel_rfl
  rw [c4] at hsz
  rw [c1] at hel
  have one : ∀ i, i < 4 → ∃ z : Int, l[i]? = some (.int .i64 z) := by
    intro i hi
    have h := hel i hi
    have hx : xs[i]? = some (xs[i]'(by omega)) := List.getElem?_eq_getElem (by omega)
    rw [hx] at h
    obtain ⟨z, e1, _⟩ := DataW.trod_int Tryz.underlying3 h
    refine ⟨z, ?_⟩
    have h0 : ((l.drop (i * 1)).take 1)[0]? = some (.int .i64 z) := by
      have : ((Value.agg ⟨l⟩).cells.toList.drop (i * 1)).take 1 = [.int .i64 z] := e1
      have e2 : (Value.agg ⟨l⟩).cells.toList = l := rfl
      rw [e2] at this
      rw [this]
      rfl
    rw [Nat.mul_one, List.getElem?_take_of_lt (by omega), List.getElem?_drop] at h0
    simpa using h0
  obtain ⟨z0, h0⟩ := one 0 (by omega)
  obtain ⟨z1, h1⟩ := one 1 (by omega)
  obtain ⟨z2, h2⟩ := one 2 (by omega)
  obtain ⟨z3, h3⟩ := one 3 (by omega)
  have hl : l.length = 4 := by simpa using hsz
  obtain ⟨x0, x1, x2, x3, rfl⟩ : ∃ x0 x1 x2 x3, l = [x0, x1, x2, x3] := by
    match l, hl with
    | [a, b, c, d], _ => exact ⟨a, b, c, d, rfl⟩
  have e0 : x0 = .int .i64 z0 := Option.some.inj h0
  have e1 : x1 = .int .i64 z1 := Option.some.inj h1
  have e2 : x2 = .int .i64 z2 := Option.some.inj h2
  have e3 : x3 = .int .i64 z3 := Option.some.inj h3
  rw [e0, e1, e2, e3]
  exact ⟨_, _, _, _, rfl⟩

set_option maxHeartbeats 4000000 in
set_option maxRecDepth 100000 in
theorem lifted (os : Os) (started : os.Started) (H : Type) (enc : TypeId × Value → H) :
    ReturnsInHanded {} Tryz.checked os 4 .any (fun w args => (Rows.engineNoneSpec.pre enc Tryz.prog Tryz.f4 Rows.engineNoneRow.domain false w args ∧ laidMetH Tryz.prog Rows.engineNoneRow.laid w) ∧ sizedMet enc Tryz.prog Tryz.f4 (OpenSpec.ofChange Rows.engineNoneSpec) false w args)
      (Rows.engineNoneSpec.post enc Tryz.prog Tryz.f4 false true false false) := by
  refine returnsInHanded_of_change_and (C := Tryz.checked) (X := fun w _ => laidMetH Tryz.prog Rows.engineNoneRow.laid w) (fun _ _ _ hh h => h.of_heap hh) own started (by kernel_rfl) Tryz.func4
    (ChangeSpec.witness_shaped (enc := enc) (C := Tryz.checked) (os := os) (X := fun w _ => laidMetH Tryz.prog Rows.engineNoneRow.laid w) false (World.laidAll Tryz.prog os Rows.engineNoneRow.laid) #[.agg #[.int .i64 0, .string ⟨#[]⟩], .agg #[.int .i64 0, .int .i64 0, .int .i64 0, .int .i64 0]] 8 (World.laidAll_os _ _ _)
      (World.shaped_of_ZipB (by kernel_rfl) (by kernel_rfl)) (by kernel_rfl) (by kernel_rfl) (by kernel_rfl)
      (by rw [MakeChecks.laidMetH_plain _ _ _ (by kernel_rfl)]; exact laidMet_laidAll _ (by kernel_rfl) (by kernel_rfl))) ?_
  intro W base args ds gs before hval0 hW hc _ hL _
  have hval : ∀ (j : Nat) t v, Tryz.f4.params[j]? = some t → args[j]? = some v → Value.okWide Tryz.prog W .any base t v := hval0
  have hW' := hW
  obtain ⟨p, q, hA0, hV, rfl, _, _⟩ := hW
  have hA : DataW.TrodAll enc Tryz.prog W 0 (fun _ => true) true Tryz.f4.params.toList args.toList ds p := hA0
  rw [Tryz.params4] at hA hval
  obtain ⟨v0, vs0, d0, ds0, p0, q0, hargs, rfl, rfl, h0, r0⟩ := trodAll_cons hA
  obtain ⟨v1, vs1, d1, ds1, p1, q1, hvs, rfl, rfl, h1, r1⟩ := trodAll_cons r0
  subst hvs
  obtain ⟨rfl, rfl, rfl⟩ := trodAll_nil r1
  obtain rfl : args = #[v0, v1] := by cases args; simp_all
  obtain ⟨rfl, rfl⟩ := trodVars_none hV
  simp only [List.append_nil] at hW'
  have hlt0 : ∀ x ∈ p0, x.block < W.heap.size := fun x hx => hW'.lt x (by simp [hx])
  have hlt1 : ∀ x ∈ p1, x.block < W.heap.size := fun x hx => hW'.lt x (by simp [hx])
  have k0 : ∀ W' : World, Below W.heap.size W W' → DataW.Trod enc Tryz.prog W' 0 (fun b => decide (b < W.heap.size)) true 45 v0 d0 p0 := fun W' hb => Below.trod laidOut (by kernel_rfl) (of_decide_eq_true (by kernel_rfl)) h0 hb hlt0
  have k1 : ∀ W' : World, Below W.heap.size W W' → DataW.Trod enc Tryz.prog W' 0 (fun b => decide (b < W.heap.size)) true 46 v1 d1 p1 := fun W' hb => Below.trod laidOut (by kernel_rfl) (of_decide_eq_true (by kernel_rfl)) h1 hb hlt1
  obtain ⟨c, s, rfl⟩ := shape0 (hval 0 45 v0 rfl rfl) h0
  obtain ⟨n0, n1, n2, n3, rfl⟩ := shape1 (hval 1 46 v1 rfl rfl) h1
  refine (en_walk c s n0 n1 n2 n3 W).mono fun e W' ⟨he, hb⟩ => ?_
  subst he
  exact ⟨_, rfl, _, _, _, [], p0 ++ (p1 ++ []), [], hW', trodAll_cons_mk (shut_bool Tryz.underlying4 _) trodAll_mk0, trodAll_cons_mk (k0 W' hb) (trodAll_cons_mk (k1 W' hb) trodAll_mk0), rfl, hb.frame _, fun h => by cases h⟩

theorem over : Rows.engineNoneRow.holds Tryz.pinned (OpenSpec.ofChange Rows.engineNoneSpec) :=
  OpenClaim.holds_of_wide 4 Tryz.f4 rfl rfl rfl rfl rfl rfl rfl ⟨rfl, rfl, rfl, rfl, rfl⟩ rfl rfl rfl rfl rfl (by kernel_rfl) Tryz.func4 closed
    (of_decide_eq_true (by kernel_rfl)) (by unfold Func.isWrapper; first | (rw [if_pos (by decide +kernel)]; kernel_rfl) | (rw [if_neg (by decide +kernel)]; exact ⟨rfl, rfl⟩))
    (fun os started H enc _ => lifted os started H enc)

theorem engineNone_card : Rows.EngineNoneCardSaid :=
  Claim7.holds_tied_plain_at .later [] [.data, .pinned] true (true, "e11a82243058af9d0c83aca1a90167db231ca7955b5eb8901af08cd5bdfd6219") false over (fun _ h => by cases h) (by kernel_rfl) (fun _ h => by cases h) engineNone_row_tie rfl ⟨rfl, rfl⟩ (by kernel_rfl) rfl
    (fun f fn hf hfn => by
      obtain rfl : f = 4 := Option.some.inj ((show Tryz.prog.funcNamed "livery/liverylaw26.EngineNone" = some 4 by kernel_rfl).symm.trans hf) |>.symm
      obtain rfl : fn = Tryz.f4 := (Option.some.inj (Tryz.func4.symm.trans hfn)).symm
      exact ⟨by kernel_rfl, fun j t ht => by
        rw [Tryz.params4] at ht
        have hm : t ∈ [45, 46] := by simpa using Array.mem_of_getElem? ht
        have hall : ([45, 46].all fun u => !Tryz.prog.wantsStandIn u) = true := by kernel_rfl
        exact (show Tryz.prog.wantsStandIn t = false by simpa using List.all_eq_true.1 hall t hm)⟩)
    (goes_false no_go _ rfl).symm
#print axioms engineNone_card
end Go.Proofs.YtligooejegmmpaaGreatDoor.engineNone
