/- The evaluator: where an order is drawn (of a map's entries, of a region's operations) and its masks do not show that it is all one, all orders are gone through, to the function's end. -/
import Derived.Test.YtpclafidblbicaaGreatDoorDetQ
import Derived.Maps.RangeRun
namespace Go.Det
open Go.RowKit (Below)

/-! ### Alike, cell by cell -/
def sameL {α : Type} (f : α → α → Bool) : List α → List α → Bool
  | [], [] => true
  | x :: xs, y :: ys => f x y && sameL f xs ys
  | _, _ => false

theorem sameL_eq {α : Type} {f : α → α → Bool} (h : ∀ a b, f a b = true → a = b) : ∀ {l l' : List α}, sameL f l l' = true → l = l'
  | [], [], _ => rfl
  | x :: xs, y :: ys, e => by
    simp only [sameL, Bool.and_eq_true] at e
    rw [h _ _ e.1, sameL_eq h e.2]
  | [], _ :: _, e => by simp [sameL] at e
  | _ :: _, [], e => by simp [sameL] at e

def sameV : Nat → Value → Value → Bool
  | 0, _, _ => false
  | n + 1, a, b =>
    match a with
    | .bool x => match b with | .bool y => x == y | _ => false
    | .int k x => match b with | .int q y => decide (k = q) && decide (x = y) | _ => false
    | .string x => match b with | .string y => sameL (fun c d : UInt8 => decide (c = d)) x.data.toList y.data.toList | _ => false
    | .pointer x => match b with | .pointer y => decide (x = y) | _ => false
    | .slice x l c => match b with | .slice y l' c' => decide (x = y) && Nat.beq l l' && Nat.beq c c' | _ => false
    | .map x => match b with | .map y => decide (x = y) | _ => false
    | .func f x y => match b with | .func g x' y' => decide (f = g) && sameL (sameV n) x.toList x'.toList && sameL (sameV n) y.toList y'.toList | _ => false
    | .nilFunc => match b with | .nilFunc => true | _ => false
    | .iface t x => match b with | .iface t' y => Nat.beq t t' && sameV n x y | _ => false
    | .nilIface => match b with | .nilIface => true | _ => false
    | .agg x => match b with | .agg y => sameL (sameV n) x.toList y.toList | _ => false
    | .tuple x => match b with | .tuple y => sameL (sameV n) x.toList y.toList | _ => false
    | .chan x => match b with | .chan y => decide (x = y) | _ => false
    | _ => false

theorem sameV_eq (n : Nat) : ∀ {a b : Value}, sameV n a b = true → a = b := by
  induction n with
  | zero => intro a b h; simp [sameV] at h
  | succ n ih =>
    intro a b h
    have ihl : ∀ {x y : Array Value}, sameL (sameV n) x.toList y.toList = true → x = y := fun e => Array.ext' (sameL_eq (fun _ _ => ih) e)
    unfold sameV at h
    cases a with
    | bool x => cases b <;> simp at h; rw [h]
    | int k x => cases b <;> simp at h; rw [h.1, h.2]
    | string x =>
      cases b <;> simp at h
      rename_i y
      have := sameL_eq (fun c d e => by simpa using e) h
      obtain ⟨x⟩ := x
      obtain ⟨y⟩ := y
      exact congrArg Value.string (congrArg ByteArray.mk (Array.ext' this))
    | pointer x => cases b <;> simp at h; rw [h]
    | slice x l c => cases b <;> simp at h; rw [h.1.1, h.1.2, h.2]
    | map x => cases b <;> simp at h; rw [h]
    | func f x y => cases b <;> simp at h; rw [h.1.1, ihl h.1.2, ihl h.2]
    | nilFunc => cases b <;> simp at h; rfl
    | iface t x => cases b <;> simp at h; rw [h.1, ih h.2]
    | nilIface => cases b <;> simp at h; rfl
    | agg x => cases b <;> simp at h; rw [ihl h]
    | tuple x => cases b <;> simp at h; rw [ihl h]
    | chan x => cases b <;> simp at h; rw [h]
    | _ => simp at h

def sameE (e e' : MapEntry) : Bool := sameV 8 e.key e'.key && sameV 8 e.val e'.val && Nat.beq e.born e'.born

theorem sameE_eq {e e' : MapEntry} (h : sameE e e' = true) : e = e' := by
  cases e; cases e'
  simp only [sameE, Bool.and_eq_true, Nat.beq_eq] at h
  rw [sameV_eq 8 h.1.1, sameV_eq 8 h.1.2, h.2]

def sameO (a b : Option Obj) : Bool :=
  match a with
  | none => match b with | none => true | _ => false
  | some (.cells c t f) => match b with | some (.cells c' t' f') => sameL (sameV 8) c.toList c'.toList && Nat.beq t t' && Nat.beq f.1 f'.1 && Nat.beq f.2 f'.2 | _ => false
  | some (.map es k) => match b with | some (.map es' k') => sameL sameE es.toList es'.toList && Nat.beq k k' | _ => false
  | _ => false

theorem sameO_eq {a b : Option Obj} (h : sameO a b = true) : a = b := by
  unfold sameO at h
  cases a with
  | none => cases b <;> simp at h; rfl
  | some o =>
    cases o with
    | cells c t f =>
      cases b with
      | none => simp at h
      | some o' =>
        cases o' with
        | cells c' t' f' =>
          simp only [Bool.and_eq_true, Nat.beq_eq] at h
          obtain ⟨⟨⟨h1, h2⟩, h3⟩, h4⟩ := h
          have := Array.ext' (sameL_eq (fun _ _ => sameV_eq 8) h1)
          rw [this, h2, Prod.ext h3 h4]
        | _ => simp at h
    | map es k =>
      cases b with
      | none => simp at h
      | some o' =>
        cases o' with
        | map es' k' =>
          simp only [Bool.and_eq_true, Nat.beq_eq] at h
          rw [Array.ext' (sameL_eq (fun _ _ => sameE_eq) h.1), h.2]
        | _ => simp at h
    | _ => simp at h

/-! ### Several ways, that come to the same -/
def onB (f : Nat → Bool) : Nat → Nat → Nat → Bool
  | 0, W, b =>
    match Nat.beq W 0 with
    | true => true
    | false =>
      match Nat.beq W 1 with
      | true => f b
      | false => false
  | d + 1, W, b =>
    match Nat.beq W 0 with
    | true => true
    | false =>
      force (Nat.pow 2 d) fun h => force (Nat.mod W (Nat.pow 2 h)) fun L => force (Nat.shiftRight W h) fun H => force (Nat.add b h) fun b' =>
        onB f d L b && onB f d H b'

def onBits (_ W : Nat) (f : Nat → Bool) : Bool := onB f 12 W 0

theorem onB_zero (f : Nat → Bool) : ∀ (d b : Nat), onB f d 0 b = true
  | 0, _ => rfl
  | _ + 1, _ => rfl

theorem onB_succ (f : Nat → Bool) (d W b : Nat) : onB f (d + 1) W b = (onB f d (W % 2 ^ 2 ^ d) b && onB f d (W >>> 2 ^ d) (b + 2 ^ d)) := by
  show (match Nat.beq W 0 with
    | true => true
    | false => force (Nat.pow 2 d) fun h => force (Nat.mod W (Nat.pow 2 h)) fun L => force (Nat.shiftRight W h) fun H => force (Nat.add b h) fun b' => onB f d L b && onB f d H b') = _
  cases hb : Nat.beq W 0 with
  | true =>
    have : W = 0 := Nat.eq_of_beq_eq_true hb
    subst this
    rw [Nat.zero_mod, Nat.zero_shiftRight, onB_zero, onB_zero]
    rfl
  | false =>
    simp only [force_eq]
    rfl

theorem onB_sound (f : Nat → Bool) : ∀ (d W b : Nat), onB f d W b = true → ∀ x, W.testBit x = true → f (b + x) = true
  | 0, W, b, h, x, hx => by
    unfold onB at h
    cases h0 : Nat.beq W 0 with
    | true =>
      have : W = 0 := Nat.eq_of_beq_eq_true h0
      subst this
      simp at hx
    | false =>
      rw [h0] at h
      cases h1 : Nat.beq W 1 with
      | false => rw [h1] at h; cases h
      | true =>
        have : W = 1 := Nat.eq_of_beq_eq_true h1
        subst this
        rw [h1] at h
        have : x = 0 := by
          cases x with
          | zero => rfl
          | succ x => simp [Nat.testBit_succ] at hx
        subst this
        exact h
  | d + 1, W, b, h, x, hx => by
    rw [onB_succ, Bool.and_eq_true] at h
    by_cases e : x < 2 ^ d
    · exact onB_sound f d _ b h.1 x (by rw [Nat.testBit_mod_two_pow, hx]; simp [e])
    · have := onB_sound f d _ _ h.2 (x - 2 ^ d) (by rw [Nat.testBit_shiftRight]; rw [show 2 ^ d + (x - 2 ^ d) = x by omega]; exact hx)
      rw [show b + 2 ^ d + (x - 2 ^ d) = b + x by omega] at this
      exact this

theorem onB_congr (f g : Nat → Bool) : ∀ (d W b : Nat), (∀ x, W.testBit x = true → g (b + x) = f (b + x)) → onB f d W b = true → onB g d W b = true
  | 0, W, b, hfg, h => by
    unfold onB at h ⊢
    cases h0 : Nat.beq W 0 with
    | true => rfl
    | false =>
      rw [h0] at h
      cases h1 : Nat.beq W 1 with
      | false => rw [h1] at h; cases h
      | true =>
        have : W = 1 := Nat.eq_of_beq_eq_true h1
        subst this
        rw [h1] at h
        have := hfg 0 (by decide)
        simp only [Nat.add_zero] at this
        show g b = true
        rw [this]
        exact h
  | d + 1, W, b, hfg, h => by
    rw [onB_succ, Bool.and_eq_true] at h ⊢
    refine ⟨onB_congr f g d _ b (fun x hx => hfg x ?_) h.1, onB_congr f g d _ _ (fun x hx => ?_) h.2⟩
    · rw [Nat.testBit_mod_two_pow] at hx
      simp only [Bool.and_eq_true] at hx
      exact hx.2
    · rw [Nat.testBit_shiftRight] at hx
      have := hfg (2 ^ d + x) hx
      rw [show b + 2 ^ d + x = b + (2 ^ d + x) by omega]
      exact this

theorem onBits_sound (n W : Nat) (f : Nat → Bool) (h : onBits n W f = true) (x : Nat) (hx : W.testBit x = true) : f x = true := by
  have := onB_sound f 12 W 0 h x hx
  rwa [Nat.zero_add] at this

theorem onBits_congr (n W : Nat) (f g : Nat → Bool) (hfg : ∀ x, W.testBit x = true → g x = f x) (h : onBits n W f = true) : onBits n W g = true :=
  onB_congr f g 12 W 0 (fun x hx => by rw [Nat.zero_add]; exact hfg x hx) h

def joinR (r s : Value × St) : Option (Value × St) :=
  force (Nat.lor r.2.R s.2.R) fun R => force (Nat.lor r.2.W s.2.W) fun W =>
    match sameV 8 r.1 s.1 && Nat.beq r.2.next s.2.next && onBits 4096 W (fun x => sameO (r.2.get x) (s.2.get x)) with
    | true => some (r.1, { r.2 with R, W })
    | false => none

theorem joinR_eq {r s t : Value × St} : joinR r s = some t ↔ (sameV 8 r.1 s.1 = true ∧ r.2.next = s.2.next ∧ onBits 4096 (Nat.lor r.2.W s.2.W) (fun x => sameO (r.2.get x) (s.2.get x)) = true) ∧
    t = (r.1, { r.2 with R := Nat.lor r.2.R s.2.R, W := Nat.lor r.2.W s.2.W }) := by
  unfold joinR
  simp only [force_eq]
  generalize he : (sameV 8 r.1 s.1 && Nat.beq r.2.next s.2.next && onBits 4096 (Nat.lor r.2.W s.2.W) (fun x => sameO (r.2.get x) (s.2.get x))) = c
  cases c with
  | true =>
    simp only [Bool.and_eq_true, Nat.beq_eq] at he
    simp only [Option.some.injEq]
    constructor
    · rintro rfl; exact ⟨⟨he.1.1, he.1.2, he.2⟩, rfl⟩
    · rintro ⟨_, rfl⟩; rfl
  | false =>
    simp only [reduceCtorEq, false_iff, not_and]
    rintro ⟨h1, h2, h3⟩
    rw [h1, h3, Bool.true_and, Bool.and_true] at he
    rw [← Nat.beq_eq] at h2
    rw [h2] at he
    cases he

def forkM {α : Type} (f : α → M Value) : List α → M Value
  | [] => M.fail
  | [a] => f a
  | a :: b :: l => fun A =>
    match f a A with
    | some r =>
      match forkM f (b :: l) A with
      | some s => joinR r s
      | none => none
    | none => none

theorem forkM_two {α : Type} {f : α → M Value} {a b : α} {l : List α} {A : St} {t : Value × St} : forkM f (a :: b :: l) A = some t ↔ ∃ r s, f a A = some r ∧ forkM f (b :: l) A = some s ∧ joinR r s = some t := by
  show (match f a A with | some r => (match forkM f (b :: l) A with | some s => joinR r s | none => none) | none => none) = some t ↔ _
  cases f a A with
  | none => simp
  | some r =>
    cases forkM f (b :: l) A with
    | none => simp
    | some s => simp

theorem forkM_loc {α : Type} {f : α → M Value} (h : ∀ a, Loc (f a)) : ∀ l, Loc (forkM f l)
  | [] => Loc.fail
  | [a] => h a
  | a :: b :: l => by
    intro A v A' he
    rw [forkM_two] at he
    obtain ⟨r, s, h1, h2, h3⟩ := he
    rw [joinR_eq] at h3
    obtain ⟨⟨j1, j2, j3⟩, h4⟩ := h3
    cases h4
    obtain ⟨rv, rA⟩ := r
    obtain ⟨sv, sA⟩ := s
    simp only at j1 j2 j3 h1 h2 ⊢
    obtain ⟨m1, l1⟩ := h a A rv rA h1
    obtain ⟨m2, l2⟩ := forkM_loc h (b :: l) A sv sA h2
    refine ⟨⟨m1.ro, m1.next, fun x hx => ?_, fun x hx => ?_, fun x hx => ?_, fun x p q => ?_⟩, fun B hB => ?_⟩
    · simp only [lor_test, m1.R x hx, Bool.true_or]
    · simp only [lor_test, m1.W x hx, Bool.true_or]
    · simp only [lor_test, Bool.or_eq_false_iff] at hx
      exact m1.same x hx.1
    · simp only [lor_test, m1.new x p q, Bool.true_or]
    · obtain ⟨b1, b2, b3, b4, b5⟩ := hB
      simp only [lor_test] at b5
      obtain ⟨B1, e1, c1, c2, c3, c4, c5⟩ := l1 B ⟨b1, b2, b3, b4, fun x hx => b5 x (by
        simp only [Bool.or_eq_true] at hx ⊢
        exact hx.imp .inl .inl)⟩
      obtain ⟨B2, e2, d1, d2, d3, d4, d5⟩ := l2 B ⟨b1, b2, b3, b4, fun x hx => b5 x (by
        simp only [Bool.or_eq_true] at hx ⊢
        exact hx.imp .inr .inr)⟩
      have g1 : ∀ x, (Nat.lor rA.W sA.W).testBit x = true → B1.get x = rA.get x := by
        intro x hx
        rw [lor_test] at hx
        rw [c5 x]
        split
        · rfl
        · rename_i hw
          rw [b5 x (by rw [hx]; simp), m1.same x (by simpa using hw)]
      have g2 : ∀ x, (Nat.lor rA.W sA.W).testBit x = true → B2.get x = sA.get x := by
        intro x hx
        rw [lor_test] at hx
        rw [d5 x]
        split
        · rfl
        · rename_i hw
          rw [b5 x (by rw [hx]; simp), m2.same x (by simpa using hw)]
      refine ⟨{ B1 with R := Nat.lor B1.R B2.R, W := Nat.lor B1.W B2.W }, ?_, c1, c2, by simp only [c3, d3], by simp only [c4, d4], fun x => ?_⟩
      · rw [forkM_two]
        refine ⟨_, _, e1, e2, ?_⟩
        rw [joinR_eq]
        refine ⟨⟨j1, by simp only [c1, d1, j2], ?_⟩, rfl⟩
        simp only [c4, d4]
        refine onBits_congr _ _ _ _ (fun x hx => ?_) j3
        rw [g1 x hx, g2 x hx]
      · show B1.get x = if (Nat.lor rA.W sA.W).testBit x = true then rA.get x else B.get x
        split
        · rename_i hx; exact g1 x hx
        · rename_i hx
          rw [c5 x, if_neg]
          rw [lor_test] at hx
          intro hw
          rw [hw] at hx
          simp at hx

/-- each of the ways comes to the result -/
theorem forkM_each {α : Type} {f : α → M Value} (h : ∀ a, Loc (f a)) : ∀ (l : List α) {A A' : St} {v : Value}, forkM f l A = some (v, A') → ∀ a ∈ l, ∃ B, f a A = some (v, B) ∧ B.get = A'.get ∧ B.next = A'.next
  | [], A, A', v, he, a, ha => by simp at ha
  | [a], A, A', v, he, a', ha => by
    rw [List.mem_singleton] at ha
    subst ha
    exact ⟨A', he, rfl, rfl⟩
  | a :: b :: l, A, A', v, he, a', ha => by
    rw [forkM_two] at he
    obtain ⟨⟨rv, rA⟩, ⟨sv, sA⟩, h1, h2, h3⟩ := he
    rw [joinR_eq] at h3
    obtain ⟨⟨j1, j2, j3⟩, h4⟩ := h3
    cases h4
    have hv := sameV_eq 8 j1
    simp only at hv j2 j3
    subst hv
    rcases List.mem_cons.1 ha with rfl | ha
    · exact ⟨rA, h1, rfl, rfl⟩
    · obtain ⟨B, k1, k2, k3⟩ := forkM_each h (b :: l) h2 a' ha
      refine ⟨B, k1, ?_, k3.trans j2.symm⟩
      rw [k2]
      funext x
      show sA.get x = rA.get x
      have m1 := (h a A rv rA h1).1
      have m2 := (forkM_loc h (b :: l) A rv sA h2).1
      cases hx : (Nat.lor rA.W sA.W).testBit x with
      | true => exact (sameO_eq (onBits_sound _ _ _ j3 x hx)).symm
      | false =>
        rw [lor_test, Bool.or_eq_false_iff] at hx
        rw [m1.same x hx.1, m2.same x hx.2]
end Go.Det
