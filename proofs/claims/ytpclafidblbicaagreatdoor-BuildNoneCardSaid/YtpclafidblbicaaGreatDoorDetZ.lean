/- The evaluator: slices.Sorted over the iterators of several kinds of maps; functions of which a contract is known, side by side; what is got of a run. -/
import Derived.Test.YtpclafidblbicaaGreatDoorDetT
import Derived.Test.YtpclafidblbicaaGreatDoorDetX
namespace Go.Det
open Go.RowKit (Below)

/-- the function of the iterator -/
def seqFn (args : List Value) : Option FuncId :=
  match args with
  | [.func (.func g) _ _] => some g
  | _ => none

def aSorteds {α : Type} (kgs : List FuncId) (K : KeyKind α) (args : Array Value) : M Value := do
  let g ← M.opt (seqFn args.toList)
  match kgs.any (Nat.beq g) with
  | true => aSorted g K args
  | false => M.fail

theorem aSorteds_loc {α : Type} (kgs : List FuncId) (K : KeyKind α) (args : Array Value) : Loc (aSorteds kgs K args) := by
  unfold aSorteds
  refine Loc.bind (Loc.opt _) fun g => ?_
  split
  · exact aSorted_loc g K args
  · exact Loc.fail

def sortedsK {α : Type} (kgs : List FuncId) (K : KeyKind α) : Known := ⟨aSorteds kgs K, aSorteds_loc kgs K⟩

/-- the contract of a function, in the evaluator's words -/
def KnownOK (P : Program) (g : FuncId) (s : Known) : Prop :=
  ∀ (B₀ : Nat) (w₀ : World) (args args' : Array Value) (μ : Mu) (A A' : St) (w : World) (v : Value), s.val args A = some (v, A') →
    Sim B₀ w₀ A.ro μ A.get w → Free μ A.next A'.next → LR μ args.toList args'.toList →
    Calls P g args' w fun e w' => ∃ μ' v', e = .returned v' ∧ MExt μ μ' A.next A'.next ∧ Sim B₀ w₀ A.ro μ' A'.get w' ∧ VRel μ' v v'

theorem sorteds_ok {α : Type} {P : Program} {g : FuncId} {kgs : List FuncId} {K : KeyKind α} (h : ∀ kg ∈ kgs, ∃ kt unlit, KeyOK P kt K unlit ∧ SortsKeys P g kg kt K unlit) : KnownOK P g (sortedsK kgs K) := by
  intro B₀ w₀ args args' μ A A' w v hv hS hf ha
  simp only [sortedsK, aSorteds, bind_eq, opt_eq] at hv
  obtain ⟨kg, B, ⟨_, rfl⟩, hv⟩ := hv
  cases hq : kgs.any (Nat.beq kg) with
  | false => rw [hq] at hv; simp [fail_eq] at hv
  | true =>
    rw [hq] at hv
    obtain ⟨x, hx, he⟩ := List.any_eq_true.1 hq
    have := Nat.eq_of_beq_eq_true he
    subst this
    obtain ⟨kt, unlit, h1, h2⟩ := h _ hx
    exact sorted_ok h1 h2 hv hS hf ha

theorem fork_ok {P : Program} (hmix : P.follows .mixedOrders = true) {X : Ext} (hX : ExtOK P X) {Y : FuncId → Option Many} {Z : FuncId → Bool} (hY : ManyOK P Y) {k gap : Nat} {g : FuncId} (hg : hasBody P g = true) : KnownOK P g (forkK P X Y Z k gap g) := by
  intro B₀ w₀ args args' μ A A' w v hv hS hf ha
  unfold hasBody at hg
  cases hfn : P.funcs[g]? with
  | none => rw [hfn] at hg; cases hg
  | some fn => exact forkCall_ok hmix hX hY hfn hv hS hf ha

/-- one without parameters that is run, and comes to a plain value -/
def aConst (v : Value) (args : Array Value) : M Value :=
  match args.toList with
  | [] => M.ret v
  | _ :: _ => M.fail

theorem aConst_loc (v : Value) (args : Array Value) : Loc (aConst v args) := by
  unfold aConst
  split
  · exact Loc.ret v
  · exact Loc.fail

def constK (v : Value) : Known := ⟨aConst v, aConst_loc v⟩

theorem const_ok {P : Program} {g : FuncId} {v : Value} (hv : gr v = true) (h : ∀ w, Calls P g #[] w fun e w' => e = .returned v ∧ Below w.heap.size w w') : KnownOK P g (constK v) := by
  intro B₀ w₀ args args' μ A A' w u hu hS hf ha
  have hu : aConst v args A = some (u, A') := hu
  unfold aConst at hu
  cases hl : args.toList with
  | cons x l => rw [hl] at hu; simp [fail_eq] at hu
  | nil =>
    rw [hl] at hu ha
    simp only [ret_eq, Prod.mk.injEq] at hu
    obtain ⟨rfl, rfl⟩ := hu
    have : args' = #[] := Array.ext' (LR.nil_inv ha)
    subst this
    refine (h w).mono ?_
    rintro e w' ⟨rfl, hb⟩
    exact ⟨μ, v, rfl, MExt.refl _ _ _, Sim.later hS hb, .of_gr hv⟩

/-- several of them -/
def known : List (FuncId × Known) → FuncId → Option Known
  | [], _ => none
  | (g, s) :: l, f =>
    match Nat.beq f g with
    | true => some s
    | false => known l f

theorem known_ok {P : Program} : ∀ {l : List (FuncId × Known)}, (∀ p ∈ l, KnownOK P p.1 p.2) → ∀ g s, known l g = some s → KnownOK P g s
  | [], _, g, s, h => by cases h
  | (g', s') :: l, hl, g, s, h => by
    unfold known at h
    cases hb : Nat.beq g g' with
    | true =>
      rw [hb] at h
      simp only [Option.some.injEq] at h
      subst h
      have := Nat.eq_of_beq_eq_true hb
      subst this
      exact hl _ List.mem_cons_self
    | false =>
      rw [hb] at h
      exact known_ok (fun p hp => hl p (List.mem_cons_of_mem _ hp)) g s h

theorem ExtOK.more {P : Program} {X : Ext} (hX : ExtOK P X) {l : List (FuncId × Known)} (hl : ∀ p ∈ l, KnownOK P p.1 p.2) : ExtOK P { X with fn := known l } where
  pure := hX.pure
  clone := hX.clone
  fn := fun g s fn _ _ h => known_ok hl g s h
  num := hX.num
  bits := hX.bits

def many : List (FuncId × Many) → FuncId → Option Many
  | [], _ => none
  | (g, s) :: l, f =>
    match Nat.beq f g with
    | true => some s
    | false => many l f

theorem many_collect {P : Program} {co kg k : Nat} {okB : Value → Bool} (h : Collects P co kg k okB) : ManyOK P (many [(co, collectY kg k okB)]) where
  row := by
    intro g s hb hs B₀ w₀ args args' μ A A1 w l hl hS ha
    unfold many at hs
    cases hq : Nat.beq g co with
    | true =>
      rw [hq] at hs
      have := Nat.eq_of_beq_eq_true hq
      subst this
      simp only [Option.some.injEq] at hs
      subst hs
      exact collect_row h hl hS ha
    | false => rw [hq] at hs; cases hs

theorem many_none {P : Program} : ManyOK P (fun _ => none) where
  row := by intro g s _ h; cases h

/-- what is got of a run over all orders -/
theorem fork_calls {P : Program} (hmix : P.follows .mixedOrders = true) {X : Ext} (hX : ExtOK P X) {Y : FuncId → Option Many} {Z : FuncId → Bool} (hY : ManyOK P Y) {k gap : Nat} {f : FuncId} {args : Array Value} {v : Value} {A' : St}
    (h : forkCall P X Y Z k gap f args start = some (v, A')) {args' : Array Value} (ha : LR (fun _ => none) args.toList args'.toList) (hv : gr v = true) (w : World) :
    Calls P f args' w fun e w' => e = .returned v ∧ Below w.heap.size w w' := by
  have hfn : ∃ fn, P.funcs[f]? = some fn := by
    unfold forkCall at h
    simp only [bind_eq, opt_eq] at h
    obtain ⟨fn, B, ⟨h1, _⟩, _⟩ := h
    exact ⟨fn, h1⟩
  obtain ⟨fn, hfn⟩ := hfn
  have hS : Sim w.heap.size w start.ro (fun _ => none) start.get w := {
    ok := fun id o h => by rw [show start.get id = none from Tr.get_nil _ _] at h; cases h
    inj := fun id id' o o' b β S β' S' h => by rw [show start.get id = none from Tr.get_nil _ _] at h; cases h
    low := fun id b β S _ h => by cases h
    top := fun id b β S h => by cases h
    below := Below.refl _ _
    base := Nat.le_refl _ }
  refine (forkCall_ok hmix hX hY hfn h hS (fun _ _ _ => rfl) ha).mono ?_
  rintro e w' ⟨μ', v', rfl, _, k2, k3⟩
  rw [k3.gr hv]
  exact ⟨rfl, k2.below⟩

/-- a run that comes to a value: its call -/
theorem run_true {P : Program} (hmix : P.follows .mixedOrders = true) {X : Ext} (hX : ExtOK P X) {k : Nat} {f : FuncId} {v : Value} (h : (evalCall P X k f #[] start).map (·.1) = some v) (hv : gr v = true) (w : World) :
    Calls P f #[] w fun e w' => e = .returned v ∧ Below w.heap.size w w' := by
  obtain ⟨⟨u, A'⟩, h1, h2⟩ := Option.map_eq_some_iff.1 h
  simp only at h2
  subst h2
  exact run_calls hmix hX h1 .nil hv w

theorem fork_true {P : Program} (hmix : P.follows .mixedOrders = true) {X : Ext} (hX : ExtOK P X) {Y : FuncId → Option Many} {Z : FuncId → Bool} (hY : ManyOK P Y) {k gap : Nat} {f : FuncId} {args args' : Array Value} {v : Value}
    (h : (forkCall P X Y Z k gap f args start).map (·.1) = some v) (ha : LR (fun _ => none) args.toList args'.toList) (hv : gr v = true) (w : World) : Calls P f args' w fun e w' => e = .returned v ∧ Below w.heap.size w w' := by
  obtain ⟨⟨u, A'⟩, h1, h2⟩ := Option.map_eq_some_iff.1 h
  simp only at h2
  subst h2
  exact fork_calls hmix hX hY h1 ha hv w

theorem agg_rel {μ : Mu} {xs ys : List Value} (h : LR μ xs ys) : VRel μ (.agg ⟨xs⟩) (.agg ⟨ys⟩) := .agg (LR.arr (xs := ⟨xs⟩) (ys := ⟨ys⟩) h).1 (LR.arr (xs := ⟨xs⟩) (ys := ⟨ys⟩) h).2

theorem unk_int {μ : Mu} (n : Int) : VRel μ (.chan (some 2)) (.int .i64 n) := .unk rfl ⟨fun _ => ⟨n, rfl⟩, (fun h => absurd h (by decide)), (fun h => absurd h (by decide)), Tok.small (by decide)⟩
theorem unk_str {μ : Mu} (s : ByteArray) : VRel μ (.chan (some 3)) (.string s) := .unk rfl ⟨(fun h => absurd h (by decide)), (fun _ => ⟨s, rfl⟩), (fun h => absurd h (by decide)), Tok.small (by decide)⟩

end Go.Det
