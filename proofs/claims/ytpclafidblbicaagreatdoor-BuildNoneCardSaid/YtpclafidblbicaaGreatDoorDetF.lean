/- The evaluator: append, copy, clear, len. -/
import Derived.Test.YtpclafidblbicaaGreatDoorDetE
import Derived.Lib.Strings
namespace Go.Det
open Go.RowKit (Below)

section
variable {P : Program} {B₀ : Nat} {w₀ : World} {μ : Mu} {A : St} {w : World}

theorem LR.get? {xs ys : List Value} (h : LR μ xs ys) : ∀ {i : Nat} {x : Value}, xs[i]? = some x → ∃ y, ys[i]? = some y ∧ VRel μ x y := by
  induction h with
  | nil => intro i x h; simp at h
  | cons hv _ ih =>
    intro i x h
    cases i with
    | zero => simp at h; subst h; exact ⟨_, rfl, hv⟩
    | succ i => simpa using ih (by simpa using h)

theorem LR.arr? {xs ys : Array Value} (h : LR μ xs.toList ys.toList) {i : Nat} {x : Value} (hx : xs[i]? = some x) : ∃ y, ys[i]? = some y ∧ VRel μ x y := by
  have := h.get? (i := i) (x := x) (by simpa using hx)
  simpa using this

theorem VRel.len {x x' : Value} (h : VRel μ x x') {n : Nat} (hn : aLen x = some n) (w : World) : (Builtin.lenOf x').run P w = .ok n w := by
  cases h <;> simp [aLen] at hn
  · rename_i n hg
    cases x <;> simp [aLen] at hn <;> (subst hn; rfl)
  · subst hn; rfl
  · subst hn; rfl

theorem aCells_good {size n m : Nat} {x x' : Value} {l : List Value} {B : St} (hS : Sim B₀ w₀ A.ro μ A.get w) (h : aCells size n x A = some (l, B)) (hx : VRel μ x x')
    (hm : aLen x = some m) (hn : n ≤ m) : (∃ l', (Builtin.firstCells size n x').run P w = .ok ⟨l'⟩ w ∧ LR μ l l' ∧ l'.length = n * size) ∧ B.get = A.get ∧ B.next = A.next ∧ B.ro = A.ro := by
  unfold aCells at h
  split at h
  · -- nil
    rename_i len cap
    split at h
    · rename_i h0
      subst h0
      rw [ret_eq] at h
      cases h
      have e := hx.same 1 rfl
      subst e
      exact ⟨⟨[], rfl, .nil, by simp⟩, rfl, rfl, rfl⟩
    · simp [fail_eq] at h
  · rename_i id off sp len cap
    simp only [aLen, Option.some.injEq] at hm
    subst hm
    split at h
    · rename_i h0
      rw [ret_eq] at h
      cases h
      refine ⟨⟨[], ?_, .nil, by simp [h0]⟩, rfl, rfl, rfl⟩
      cases hx with
      | ground k hg => cases k <;> simp [ground] at hg
      | slice hmu => simp only [Builtin.firstCells, h0]; rfl
      | soft hmu hl ha hs => simp only [Builtin.firstCells, h0]; rfl
    · rename_i h0
      simp only [bind_eq, opt_eq] at h
      obtain ⟨c, B1, h1, h2, rfl⟩ := h
      obtain ⟨e, fz, h3, rfl⟩ := rdCells_eq h1
      refine ⟨?_, rfl, rfl, rfl⟩
      cases hx with
      | ground k hg => cases k <;> simp [ground] at hg
      | @slice id off b β S len cap hmu =>
        obtain ⟨l', h4, h5, h6⟩ := hS.ld (P := P) h3 hmu h2
        exact ⟨l', h4, h5, h6⟩
      | @soft id off b β S len c sz cap' a' hmu hl ha hs =>
        obtain ⟨l', h4, h5, h6⟩ := hS.ld (P := P) h3 hmu h2
        have hpos : 0 < cap' := by
          have : n ≠ 0 := by rintro rfl; simp at h0
          omega
        exact ⟨l', by simp only [Builtin.firstCells, ha hpos]; exact h4, h5, h6⟩
  · rename_i s
    simp only [aLen, Option.some.injEq] at hm
    subst hm
    split at h
    · rename_i h1
      subst h1
      rw [ret_eq] at h
      cases h
      have e := hx.same 1 rfl
      subst e
      refine ⟨⟨_, ?_, LR.refl_all ?_, ?_⟩, rfl, rfl, rfl⟩
      · simp only [Builtin.firstCells, Sem.run_pure]
        congr 1
        apply Array.ext'
        rw [Array.toList_map, Lib.extract_data, List.drop_zero, Nat.sub_zero]
      · intro v hv
        simp only [List.mem_map] at hv
        obtain ⟨b, _, rfl⟩ := hv
        exact .ground 1 rfl
      · simp only [List.length_map, List.length_take]
        have : s.data.toList.length = s.size := Array.length_toList
        omega
    · simp [fail_eq] at h
  · simp [fail_eq] at h

theorem growBy_le (newLen : Nat) : ∀ (r c : Nat), c ≤ 2 * newLen + 1024 → Builtin.growBy newLen r c ≤ 2 * newLen + 1024
  | 0, c, h => h
  | r + 1, c, h => by
    rw [Builtin.growBy]
    split
    · exact h
    · exact growBy_le newLen r _ (by omega)

theorem nextslicecap_le {n c : Nat} (h : c < n) : Builtin.nextslicecap n c ≤ 2 * n + 1024 := by
  unfold Builtin.nextslicecap
  split
  · omega
  · split
    · omega
    · exact growBy_le n 4 c (by omega)

structure AppFacts (P : Program) (argTypes : Array TypeId) (args : Array Value) (base : Option Addr) (len cap n : Nat) (x : Value) (elem : TypeId) (i : TypeInfo) (z : Value) : Prop where
  t : ∃ st xt, argTypes[0]? = some st ∧ argTypes[1]? = some xt ∧ P.underlying st = some (.slice elem) ∧ isIntType P xt = false
  a0 : args[0]? = some (.slice base len cap)
  a1 : args[1]? = some x
  hi : P.info? elem = some i
  hz : tzero P elem = some z
  b : 0 < i.bytes
  hn : ∀ w, (Builtin.lenOf x).run P w = .ok n w
  small : (2 * (len + n) + 1024) * i.bytes ≤ 140737488355328

theorem isInt_false {P : Program} {t : TypeId} (h : isIntType P t = false) : ∃ d, P.underlying t = some d ∧ (∀ k, d ≠ .int k) := by
  unfold isIntType at h
  cases hu : P.underlying t with
  | none => rw [hu] at h; cases h
  | some d => rw [hu] at h; exact ⟨d, rfl, fun k e => by subst e; cases h⟩

theorem run_append_in {argTypes : Array TypeId} {ty : TypeId} {args : Array Value} {base : Option Addr} {len cap n : Nat} {x z : Value} {elem : TypeId} {i : TypeInfo} (f : AppFacts P argTypes args base len cap n x elem i z)
    (hle : len + n ≤ cap) {l : List Value} (hl : (Builtin.firstCells i.size n x).run P w = .ok ⟨l⟩ w) {w' : World}
    (hst : (match base with | some a => storeCells (a.add (len * i.size)) l | none => pure () : Sem Unit).run P w = .ok () w') :
    (Builtin.append_ argTypes ty args).run P w = .ok (.slice base (len + n) cap) w' := by
  obtain ⟨st, xt, t0, t1, hu, hx⟩ := f.t
  obtain ⟨d, hd, hni⟩ := isInt_false hx
  have hz : (match d with | .int _ => true | _ => false : Bool) = false := by cases d <;> first | rfl | exact absurd rfl (hni _)
  have hsz : tsize P elem = some i.size := by simp [tsize, f.hi]
  unfold Builtin.append_
  simp only [t0, t1, f.a0, f.a1, Sem.run_bind, run_underlying hu, Result.andThen_ok, run_sizeOf hsz, run_underlying hd, Sem.run_pure, hz, Bool.false_eq_true, if_false, f.hn, hle, if_true, Bool.not_false, hl]
  cases base with
  | none => simp only [Sem.run_pure] at hst ⊢; cases hst; rfl
  | some a => simp only [Sem.run_bind] at hst ⊢; rw [hst]; rfl

theorem run_append_out {argTypes : Array TypeId} {ty : TypeId} {args : Array Value} {base : Option Addr} {len cap n : Nat} {x z : Value} {elem : TypeId} {i : TypeInfo} (f : AppFacts P argTypes args base len cap n x elem i z)
    (hgt : ¬ len + n ≤ cap) {l o : List Value} (hl : (Builtin.firstCells i.size n x).run P { w with drawn := w.drawn + 1 } = .ok ⟨l⟩ { w with drawn := w.drawn + 1 })
    (ho : (Builtin.firstCells i.size len (.slice base len cap)).run P { w with drawn := w.drawn + 1 } = .ok ⟨o⟩ { w with drawn := w.drawn + 1 }) :
    ∃ c, len + n ≤ c ∧ (Builtin.append_ argTypes ty args).run P w = .ok (.slice (some ⟨w.heap.size, 0, none⟩) (len + n) c)
      { w with drawn := w.drawn + 1, heap := w.heap.push (.cells (⟨o ++ l⟩ ++ Builtin.zeroCells z.cells (c - (len + n))) elem (0, 0)) } := by
  obtain ⟨st, xt, t0, t1, hu, hx⟩ := f.t
  obtain ⟨d, hd, hni⟩ := isInt_false hx
  have hz : (match d with | .int _ => true | _ => false : Bool) = false := by cases d <;> first | rfl | exact absurd rfl (hni _)
  have hsz : tsize P elem = some i.size := by simp [tsize, f.hi]
  have hb0 : ¬ i.bytes = 0 := by have := f.b; omega
  have hcap : ¬ Builtin.nextslicecap (len + n) cap * i.bytes > 2 ^ 48 := by
    have h1 := nextslicecap_le (n := len + n) (c := cap) (by omega)
    have h2 : Builtin.nextslicecap (len + n) cap * i.bytes ≤ (2 * (len + n) + 1024) * i.bytes := Nat.mul_le_mul_right _ h1
    have h3 := f.small
    have h4 : (2 : Nat) ^ 48 = 281474976710656 := rfl
    omega
  refine ⟨(Question.appendCap (len + n) cap elem).cut (w.tape w.drawn (.appendCap (len + n) cap elem)), by simp [Question.cut], ?_⟩
  unfold Builtin.append_
  simp only [t0, t1, f.a0, f.a1, Sem.run_bind, run_underlying hu, Result.andThen_ok, run_sizeOf hsz, run_underlying hd, Sem.run_pure, hz, Bool.false_eq_true, if_false, f.hn, hgt, Bool.not_false, if_true, run_typeInfo f.hi, hb0,
    false_or, and_false, hcap, run_choose, Question.forced, run_askRoom, ho, hl, run_zeroValue f.hz]
  simp only [newRow, Sem.run_bind, run_newObj, Result.andThen_ok, Sem.run_pure]
  have e : (⟨o⟩ : Array Value) ++ ⟨l⟩ = ⟨o ++ l⟩ := by simp
  rw [e]

theorem Sim.in_drawn (hS : Sim B₀ w₀ A.ro μ A.get w) : Sim B₀ w₀ A.ro μ A.get { w with drawn := w.drawn + 1 } := hS.drawn _

theorem zeroCells_refl {z : Value} (n : Nat) : Builtin.zeroCells z.cells n = zeros z (n * z.cells.size) := rfl

/-- the model's new row behind an append -/
theorem append_new {e : TypeId} {os xs os' xs' : List Value} (hS : Sim B₀ w₀ A.ro μ A.get w) (hl : A.next < lim) (hf : μ A.next = none) (ho : LR μ os os') (hx : LR μ xs xs')
    {z : Array Value} (e' : TypeId) :
    Sim B₀ w₀ A.ro (μ.add A.next (w.heap.size, 0, ((⟨os' ++ xs'⟩ : Array Value) ++ z).size)) (A.alloc (.cells ⟨os ++ xs⟩ e (0, 0))).get { w with heap := w.heap.push (.cells ((⟨os' ++ xs'⟩ : Array Value) ++ z) e' (0, 0)) } := by
  have h1 := ho.length
  have h2 := hx.length
  refine hS.row hl hf ?_ ?_ 0 0 (by omega)
  · simp; omega
  · have : ((⟨os' ++ xs'⟩ : Array Value) ++ z).toList.take ((⟨os ++ xs⟩ : Array Value)).size = os' ++ xs' := by
      simp only [Array.toList_append, List.size_toArray]
      rw [List.take_append_of_le_length (by simp; omega), List.take_of_length_le (by simp; omega)]
    rw [this]
    exact ho.append hx

theorem stCells_toList : ∀ (vs : List Value) (c : Array Value) (p : Nat), p + vs.length ≤ c.size → (stCells c p vs).toList = c.toList.take p ++ vs ++ c.toList.drop (p + vs.length)
  | [], c, p, _ => by simp [stCells]
  | v :: vs, c, p, h => by
    simp only [List.length_cons] at h
    rw [stCells, stCells_toList vs _ _ (by simp; omega)]
    rw [Array.toList_setIfInBounds]
    have hp : p < c.toList.length := by simp; omega
    have h1 : (c.toList.set p v).take (p + 1) = c.toList.take p ++ [v] := by
      rw [List.take_succ_eq_append_getElem (by simpa using hp)]
      simp
      rw [List.take_set_of_le (Nat.le_refl _)]
    have h2 : (c.toList.set p v).drop (p + 1 + vs.length) = c.toList.drop (p + (vs.length + 1)) := by
      rw [List.drop_set_of_lt (by omega)]
      congr 1
      omega
    rw [h1, h2]
    simp

theorem aAppendTo_good {argTypes : Array TypeId} {ty elem : TypeId} {args' : Array Value} {s s' x x' v : Value} {len n : Nat} {i : TypeInfo} {z : Value} {A' : St}
    (hS : Sim B₀ w₀ A.ro μ A.get w) (h : aAppendTo elem i.size s x len n A = some (v, A')) (hf : Free μ A.next A'.next) (hs : VRel μ s s') (hx : VRel μ x x')
    (hls : aLen s = some len) (hlx : aLen x = some n) (hz : z.cells.size = i.size) (hi0 : 0 < i.size)
    (t : ∃ st xt, argTypes[0]? = some st ∧ argTypes[1]? = some xt ∧ P.underlying st = some (.slice elem) ∧ isIntType P xt = false)
    (a0 : args'[0]? = some s') (a1 : args'[1]? = some x') (hi : P.info? elem = some i) (hz' : tzero P elem = some z) (hb : 0 < i.bytes) (hsmall : (2 * (len + n) + 1024) * i.bytes ≤ 140737488355328) :
    Good P B₀ w₀ μ A A' (Builtin.append_ argTypes ty args') w v := by
  have hlen := fun w => hx.len (P := P) hlx w
  have facts : ∀ base len cap, aLen s = some len → s' = .slice base len cap → (2 * (len + n) + 1024) * i.bytes ≤ 140737488355328 → AppFacts P argTypes args' base len cap n x' elem i z :=
    fun base len cap _ e hsm => ⟨t, e ▸ a0, a1, hi, hz', hb, hlen, hsm⟩
  unfold aAppendTo at h
  split at h
  · -- nil
    rename_i len0 cap
    split at h
    · simp [fail_eq] at h
    · rename_i h0
      have e := hs.same 1 rfl
      subst e
      simp only [aLen, Option.some.injEq] at hls
      subst hls
      have h1 : len0 = 0 := by omega
      have h2 : cap = 0 := by omega
      subst h1
      subst h2
      simp only [bind_eq] at h
      obtain ⟨xs, B, hc, h3⟩ := h
      split at h3
      · rename_i hn
        subst hn
        rw [ret_eq] at h3
        cases h3
        obtain ⟨⟨l', k1, k2, k3⟩, k4, k5, k6⟩ := aCells_good (P := P) hS hc hx hlx (Nat.le_refl _)
        refine ⟨μ, w, .slice none 0 0, ?_, MExt.refl _ _ _, k4 ▸ hS, hs⟩
        exact run_append_in (facts _ _ _ rfl rfl hsmall) (Nat.le_refl _) k1 rfl
      · rename_i hn
        simp only [bind_eq, ret_eq, Prod.mk.injEq] at h3
        obtain ⟨id, B2, h4, rfl, rfl⟩ := h3
        obtain ⟨⟨l', k1, k2, k3⟩, k4, k5, k6⟩ := aCells_good (P := P) (Sim.in_drawn hS) hc hx hlx (Nat.le_refl _)
        obtain ⟨c, c1, c2⟩ := run_append_out (w := w) (ty := ty) (facts _ _ _ rfl rfl hsmall) (by omega) k1 (o := []) rfl
        obtain ⟨ho, hl, _, rfl, rfl⟩ := aRow_eq h4
        rw [k5] at hl
        have hSB : Sim B₀ w₀ B.ro μ B.get { w with drawn := w.drawn + 1 } := by rw [k4, k6]; exact Sim.in_drawn hS
        have hfree := hf B.next (by rw [k5]; exact Nat.le_refl _) (by simp)
        have hSn := append_new (e := elem) (os := []) (os' := []) (xs := xs) (xs' := l') (z := Builtin.zeroCells z.cells (c - (0 + n))) hSB (by rw [k5]; exact hl) hfree .nil k2 elem
        rw [k6] at hSn
        refine ⟨_, _, _, c2, ?_, hSn, ?_⟩
        · show MExt μ _ A.next (B.next + 1)
          rw [k5] at hfree ⊢
          exact Mu.add_ext (n := A.next) hfree
        · rw [k5]
          have := VRel.soft (off := 0) (len := n) (c := n) (sz := i.size) (cap' := c) (a' := ⟨w.heap.size, 0, none⟩) (Mu.add_self μ A.next (w.heap.size, 0, ((⟨[] ++ l'⟩ : Array Value) ++ Builtin.zeroCells z.cells (c - (0 + n))).size)) (by omega) (fun _ => by simp) ?_
          · simpa using this
          · simp only [zeroCells_refl, hz, zeros, Array.size_append, List.size_toArray, Array.size_map, Array.size_range, List.nil_append, k3]
            rw [← Nat.add_mul]
            rw [show n + (c - (0 + n)) = c by omega]
            omega
  · -- exact
    rename_i id off len0 cap
    simp only [aLen, Option.some.injEq] at hls
    have hls := hls.symm
    subst hls
    cases hs with
    | ground k hg => cases k <;> simp [ground] at hg
    | @slice id off b β S len cap hmu =>
      simp only [bind_eq] at h
      obtain ⟨xs, B, hc, h3⟩ := h
      split at h3
      · rename_i hle
        obtain ⟨⟨l', k1, k2, k3⟩, k4, k5, k6⟩ := aCells_good (P := P) hS hc hx hlx (Nat.le_refl _)
        have hSB : Sim B₀ w₀ B.ro μ B.get w := by rw [k4, k6]; exact hS
        split at h3
        · rename_i hn
          subst hn
          rw [ret_eq] at h3
          cases h3
          refine ⟨μ, w, _, run_append_in (facts _ _ _ rfl rfl hsmall) hle k1 (w' := w) ?_, MExt.refl _ _ _, by rw [← k6]; exact hSB, .slice hmu⟩
          have : l' = [] := by
            have : l'.length = 0 := by simpa using k3
            exact List.length_eq_zero_iff.1 this
          subst this
          rfl
        · rename_i hn
          simp only [bind_eq, ret_eq, Prod.mk.injEq] at h3
          obtain ⟨u, B2, h4, rfl, rfl⟩ := h3
          obtain ⟨w', g1, g2, g3, g4⟩ := aStoreAt_good (P := P) hSB h4 hmu k2
          refine ⟨μ, w', _, run_append_in (facts _ _ _ rfl rfl hsmall) hle k1 (w' := w') ?_, MExt.refl _ _ _, by rw [← k6]; exact g2, .slice hmu⟩
          simp only [Addr.add_eq, Nat.add_assoc]
          exact g1
      · rename_i hgt
        simp only [bind_eq, ret_eq, Prod.mk.injEq] at h3
        obtain ⟨os, B1, hco, id2, B2, h4, rfl, rfl⟩ := h3
        obtain ⟨⟨l', k1, k2, k3⟩, k4, k5, k6⟩ := aCells_good (P := P) (Sim.in_drawn hS) hc hx hlx (Nat.le_refl _)
        have hSB : Sim B₀ w₀ B.ro μ B.get { w with drawn := w.drawn + 1 } := by rw [k4, k6]; exact Sim.in_drawn hS
        obtain ⟨⟨o', j1, j2, j3⟩, j4, j5, j6⟩ := aCells_good (P := P) hSB hco (.slice hmu) rfl (Nat.le_refl _)
        obtain ⟨c, c1, c2⟩ := run_append_out (w := w) (ty := ty) (facts _ _ _ rfl rfl hsmall) hgt k1 j1
        obtain ⟨ho, hl, _, rfl, rfl⟩ := aRow_eq h4
        have hSB1 : Sim B₀ w₀ B1.ro μ B1.get { w with drawn := w.drawn + 1 } := by rw [j4, j6]; exact hSB
        have hfree := hf B1.next (by rw [j5, k5]; exact Nat.le_refl _) (by simp)
        have hSn := append_new (e := elem) (z := Builtin.zeroCells z.cells (c - (len + n))) hSB1 hl hfree j2 k2 elem
        rw [j6, k6] at hSn
        refine ⟨_, _, _, c2, ?_, hSn, ?_⟩
        · show MExt μ _ A.next (B1.next + 1)
          rw [j5, k5] at hfree ⊢
          exact Mu.add_ext (n := A.next) hfree
        · rw [j5, k5]
          have := VRel.soft (off := 0) (len := len + n) (c := len + n) (sz := i.size) (cap' := c) (a' := ⟨w.heap.size, 0, none⟩) (Mu.add_self μ A.next (w.heap.size, 0, ((⟨o' ++ l'⟩ : Array Value) ++ Builtin.zeroCells z.cells (c - (len + n))).size)) c1 (fun _ => by simp) ?_
          · simpa using this
          · simp only [zeroCells_refl, hz, zeros, Array.size_append, List.size_toArray, Array.size_map, Array.size_range, List.length_append, k3, j3]
            rw [← Nat.add_mul, ← Nat.add_mul]
            rw [show len + n + (c - (len + n)) = c by omega]
            omega
  · -- soft
    rename_i id off sz len0 c0
    split at h
    · simp [fail_eq] at h
    · rename_i hsz
      have hsz : sz = i.size := by omega
      subst hsz
      simp only [aLen, Option.some.injEq] at hls
      have hls := hls.symm
      subst hls
      cases hs with
      | ground k hg => cases k <;> simp [ground] at hg
      | @soft id off b β S len c sz cap' a' hmu hle ha hss =>
        simp only [bind_eq] at h
        obtain ⟨xs, B, hc, h3⟩ := h
        split at h3
        · rename_i hn
          subst hn
          rw [ret_eq] at h3
          cases h3
          obtain ⟨⟨l', k1, k2, k3⟩, k4, k5, k6⟩ := aCells_good (P := P) hS hc hx hlx (Nat.le_refl _)
          refine ⟨μ, w, _, run_append_in (facts _ _ _ rfl rfl hsmall) (by omega) k1 (w' := w) ?_, MExt.refl _ _ _, by rw [k4]; exact hS, .soft hmu hle ha hss⟩
          have : l' = [] := by
            have : l'.length = 0 := by simpa using k3
            exact List.length_eq_zero_iff.1 this
          subst this
          rfl
        · rename_i hn
          simp only [bind_eq, rd_eq] at h3
          obtain ⟨ob, B1, ⟨h4, rfl⟩, h5⟩ := h3
          cases ob <;> try (simp [fail_eq] at h5; done)
          rename_i cc e fz
          simp only [bind_eq, opt_eq, wr_eq, ret_eq, Prod.mk.injEq, St.look_ro] at h5
          obtain ⟨os, B2, ⟨h6, rfl⟩, u, B3, ⟨hlim, hro, rfl⟩, id2, B4, h7, rfl, rfl⟩ := h5
          obtain ⟨ho, hl, _, rfl, rfl⟩ := aRow_eq h7
          simp only [St.write_next, St.look_next] at hl
          have hnext : ((B.look id).write id none).next = B.next := rfl
          by_cases hin : len + n ≤ cap'
          · -- it stays where it is
            obtain ⟨⟨l', k1, k2, k3⟩, k4, k5, k6⟩ := aCells_good (P := P) hS hc hx hlx (Nat.le_refl _)
            have hSB : Sim B₀ w₀ B.ro μ B.get w := by rw [k4, k6]; exact hS
            have hpos : 0 < cap' := by omega
            have hae := ha hpos
            subst hae
            obtain ⟨c', e', lo, hi', q1, q2, q3, q4, q5⟩ := hSB.cells h4 hmu
            have hmul : (len + n) * i.size ≤ cap' * i.size := Nat.mul_le_mul_right _ hin
            rw [Nat.add_mul] at hmul
            obtain ⟨o', j1, j2, j3⟩ := hSB.ld (P := P) h4 hmu h6
            have hxl := k2.length
            have hrun := run_stores (P := P) (o := β + off + len * i.size) l' 0 c' w q1 (by rw [q2]; exact q4) (by rw [q2, k3]; omega) (k2.one (by
              simp only [List.all_append, Bool.and_eq_true] at ho; exact ho.2))
            simp only [Nat.add_zero] at hrun
            have hfree := hf B.next (by rw [k5]; exact Nat.le_refl _) (by simp [hnext])
            refine ⟨μ.add B.next (b, β + off, S), _, _, run_append_in (facts _ _ _ rfl rfl hsmall) hin k1 (w' := _) (by simp only [Addr.add_eq]; exact hrun), ?_, ?_, ?_⟩
            · show MExt μ _ A.next (B.next + 1)
              rw [k5] at hfree ⊢
              exact Mu.add_ext (n := A.next) hfree
            · rw [← k6]
              have hget : ∀ y o, y ≠ B.next → (((B.look id).write id none).alloc (.cells ⟨os ++ xs⟩ e (0, 0))).get y = some o → y ≠ id ∧ B.get y = some o := by
                intro y o hne hy
                rw [St.alloc_get ((B.look id).write id none) y _ hl, hnext, if_neg hne, St.write_get _ _ _ _ hlim] at hy
                split at hy
                · cases hy
                · rename_i hne'; exact ⟨hne', hy⟩
              refine hSB.upd B.next b (β + off) S (.cells ⟨os ++ xs⟩ e (0, 0)) (.cells (stCells c' (β + off + len * i.size) l') e' (lo, hi')) (Mu.add_le hfree) ?_ (Mu.add_self _ _ _) ?_ ?_ ?_ ?_ (putO_at q1) ?_ ?_ rfl rfl rfl ?_ ?_
              · intro y p hne hp; simpa [Mu.add, hne] using hp
              · intro y o hne hy; exact (hget y o hne hy).2
              · rw [St.alloc_get ((B.look id).write id none) B.next _ hl, hnext, if_pos rfl]
              · intro y o β' S' hne hy hmy
                obtain ⟨a1, a2⟩ := hget y o hne hy
                exact a1 (hSB.inj y id o _ _ _ _ _ _ a2 h4 hmy hmu)
              · intro k hk _; exact putO_other hk
              · refine ⟨by simp, _, _, lo, hi', rfl, by rw [stCells_size]; exact q2, ?_, q4, ?_⟩
                · simp only [List.size_toArray, List.length_append]
                  have := j2.length
                  rw [j3] at this
                  omega
                · have hjl := j2.length
                  have hsz2 : ((⟨os ++ xs⟩ : Array Value)).size = len * i.size + n * i.size := by
                    simp only [List.size_toArray, List.length_append]; omega
                  rw [hsz2, stCells_toList _ _ _ (by rw [q2, k3]; omega)]
                  have hd : (c'.toList.take (β + off + len * i.size) ++ l' ++ c'.toList.drop (β + off + len * i.size + l'.length)).drop (β + off) =
                      (c'.toList.drop (β + off)).take (len * i.size) ++ l' ++ c'.toList.drop (β + off + len * i.size + l'.length) := by
                    rw [List.append_assoc, List.drop_append_of_le_length (by simp; omega), List.drop_take, List.append_assoc]
                    congr 2
                    omega
                  have htl : ((c'.toList.drop (β + off)).take (len * i.size)).length = len * i.size := by simp; omega
                  rw [hd, List.take_append_of_le_length (by simp only [List.length_append, htl, k3]; omega), List.take_of_length_le (by simp only [List.length_append, htl, k3]; omega)]
                  have hlo : o' = (c'.toList.drop (β + off)).take (len * i.size) := by
                    have := run_loadCells_list (P := P) w ⟨b, β + off, none⟩ ((c'.toList.drop (β + off)).take (len * i.size)) (fun j v hj => by
                      rw [Addr.add_eq, cell_of_block q1]
                      rw [List.getElem?_take] at hj
                      split at hj
                      · rw [List.getElem?_drop] at hj
                        simpa using hj
                      · cases hj)
                    rw [htl, j1] at this
                    simp only [Result.ok.injEq, and_true] at this
                    simpa using congrArg Array.toList this
                  rw [← hlo]
                  exact (j2.append k2).mono (Mu.add_le hfree)
              · exact hSB.low id b β S hro hmu
              · simp [putO]
              · have := hSB.top _ _ _ _ hmu; simpa [putO] using this
            · rw [hnext]
              have := VRel.soft (off := 0) (len := len + n) (c := len + n) (sz := i.size) (cap' := cap') (a' := ⟨b, β + off, none⟩) (Mu.add_self μ B.next (b, β + off, S)) hin (fun _ => by simp) (by omega)
              simpa using this
          · -- it moves
            obtain ⟨⟨l', k1, k2, k3⟩, k4, k5, k6⟩ := aCells_good (P := P) (Sim.in_drawn hS) hc hx hlx (Nat.le_refl _)
            have hSB : Sim B₀ w₀ B.ro μ B.get { w with drawn := w.drawn + 1 } := by rw [k4, k6]; exact Sim.in_drawn hS
            have hold : ∃ o', (Builtin.firstCells i.size len (.slice (some a') len cap')).run P { w with drawn := w.drawn + 1 } = .ok ⟨o'⟩ { w with drawn := w.drawn + 1 } ∧ LR μ os o' ∧ o'.length = len * i.size := by
              by_cases h0 : len = 0
              · subst h0
                have : os = [] := by obtain ⟨_, e⟩ := ldCells_eq h6; simpa using e
                subst this
                exact ⟨[], by simp only [Builtin.firstCells, Nat.zero_mul]; rfl, .nil, by simp⟩
              · have hpos : 0 < cap' := by omega
                have hae := ha hpos
                subst hae
                obtain ⟨o', j1, j2, j3⟩ := hSB.ld (P := P) h4 hmu h6
                exact ⟨o', j1, j2, j3⟩
            obtain ⟨o', j1, j2, j3⟩ := hold
            obtain ⟨c, c1, c2⟩ := run_append_out (w := w) (ty := ty) (facts _ _ _ rfl rfl hsmall) hin k1 j1
            have hSB1 : Sim B₀ w₀ ((B.look id).write id none).ro μ ((B.look id).write id none).get { w with drawn := w.drawn + 1 } := by
              refine Sim.sub hSB fun y o hy => ?_
              rw [St.write_get _ _ _ _ hlim] at hy
              split at hy
              · cases hy
              · exact hy
            have hfree := hf B.next (by rw [k5]; exact Nat.le_refl _) (by simp [hnext])
            have hSn := append_new (e := e) (z := Builtin.zeroCells z.cells (c - (len + n))) hSB1 hl hfree j2 k2 elem
            have hro2 : ((B.look id).write id none).ro = A.ro := k6
            rw [hro2, hnext] at hSn
            refine ⟨_, _, _, c2, ?_, hSn, ?_⟩
            · show MExt μ _ A.next (B.next + 1)
              rw [k5] at hfree ⊢
              exact Mu.add_ext (n := A.next) hfree
            · rw [hnext]
              have := VRel.soft (off := 0) (len := len + n) (c := len + n) (sz := i.size) (cap' := c) (a' := ⟨w.heap.size, 0, none⟩) (Mu.add_self μ B.next (w.heap.size, 0, ((⟨o' ++ l'⟩ : Array Value) ++ Builtin.zeroCells z.cells (c - (len + n))).size)) c1 (fun _ => by simp) ?_
              · simpa using this
              · simp only [zeroCells_refl, hz, zeros, Array.size_append, List.size_toArray, Array.size_map, Array.size_range, List.length_append, k3, j3]
                rw [← Nat.add_mul, ← Nat.add_mul]
                rw [show len + n + (c - (len + n)) = c by omega]
                omega
  · simp [fail_eq] at h

theorem aAppend_good {argTypes : Array TypeId} {ty : TypeId} {args args' : Array Value} {v : Value} {A' : St} (hS : Sim B₀ w₀ A.ro μ A.get w) (h : aAppend P argTypes args A = some (v, A'))
    (hf : Free μ A.next A'.next) (ha : LR μ args.toList args'.toList) : Good P B₀ w₀ μ A A' (Builtin.append_ argTypes ty args') w v := by
  unfold aAppend at h
  cases t0 : argTypes[0]? with
  | none => simp [t0, fail_eq] at h
  | some st =>
  cases t1 : argTypes[1]? with
  | none => simp [t0, t1, fail_eq] at h
  | some xt =>
  cases a0 : args[0]? with
  | none => simp [t0, t1, a0, fail_eq] at h
  | some s =>
  cases a1 : args[1]? with
  | none => simp [t0, t1, a0, a1, fail_eq] at h
  | some x =>
  simp only [t0, t1, a0, a1] at h
  cases hu : P.underlying st with
  | none => simp [hu, fail_eq] at h
  | some d =>
  simp only [hu] at h
  cases d <;> try (simp [fail_eq] at h; done)
  rename_i elem
  simp only [bind_eq, opt_eq] at h
  obtain ⟨i, B1, ⟨hi, rfl⟩, z, B2, ⟨hz, rfl⟩, len, B3, ⟨hl, rfl⟩, n, B4, ⟨hn, rfl⟩, h5⟩ := h
  split at h5
  · rename_i hc
    obtain ⟨c1, c2, c3, c4, c5⟩ := hc
    obtain ⟨s', b0, hs⟩ := ha.arr? a0
    obtain ⟨x', b1, hx⟩ := ha.arr? a1
    exact aAppendTo_good hS h5 hf hs hx hl hn c1 c2 ⟨st, xt, t0, t1, hu, c4⟩ b0 b1 hi hz c3 c5
  · simp [fail_eq] at h5

theorem aCopy_good {argTypes : Array TypeId} {ty : TypeId} {args args' : Array Value} {v : Value} {A' : St} (hS : Sim B₀ w₀ A.ro μ A.get w) (h : aCopy P argTypes args A = some (v, A'))
    (ha : LR μ args.toList args'.toList) : Good P B₀ w₀ μ A A' (Builtin.copy_ argTypes ty args') w v := by
  unfold aCopy at h
  cases t0 : argTypes[0]? with
  | none => simp [t0, fail_eq] at h
  | some dt =>
  cases a0 : args[0]? with
  | none => simp [t0, a0, fail_eq] at h
  | some dst =>
  cases a1 : args[1]? with
  | none => cases dst <;> simp [t0, a0, a1, fail_eq] at h
  | some src =>
  cases dst <;> try (simp [t0, a0, a1, fail_eq] at h; done)
  rename_i base dLen cap
  simp only [t0, a0, a1] at h
  cases hu : P.underlying dt with
  | none => simp [hu, fail_eq] at h
  | some d =>
  simp only [hu] at h
  cases d <;> try (simp [fail_eq] at h; done)
  rename_i elem
  simp only [bind_eq, opt_eq] at h
  obtain ⟨size, B1, ⟨hs, rfl⟩, n, B2, ⟨hn, rfl⟩, xs, B, hc, h5⟩ := h
  obtain ⟨dst', b0, hd⟩ := ha.arr? a0
  obtain ⟨src', b1, hx⟩ := ha.arr? a1
  obtain ⟨⟨l', k1, k2, k3⟩, k4, k5, k6⟩ := aCells_good (P := P) hS hc hx hn (Nat.min_le_left _ _)
  have hSB : Sim B₀ w₀ B.ro μ B.get w := by rw [k4, k6]; exact hS
  have hlen := hx.len (P := P) hn
  -- the destination
  have hdst : ∃ base' cap', dst' = .slice base' dLen cap' ∧ (base = none → base' = none) ∧ (∀ id off sp, base = some ⟨id, off, sp⟩ → 0 < dLen → ∃ b β S, μ id = some (b, β, S) ∧ base' = some ⟨b, β + off, none⟩) ∧ (base' = none → base = none) := by
    cases hd with
    | @ground _ k hg =>
      cases base with
      | none =>
        refine ⟨none, cap, rfl, fun _ => rfl, ?_, fun _ => rfl⟩
        intro _ _ _ e; cases e
      | some a => cases k <;> simp [ground] at hg
    | @slice id off b β S len cap hmu =>
      refine ⟨_, _, rfl, ?_, ?_, ?_⟩
      · intro e; cases e
      · intro _ _ _ e _; cases e; exact ⟨b, β, S, hmu, rfl⟩
      · intro e; cases e
    | @soft id off b β S len c sz cap' a' hmu hle hae hss =>
      refine ⟨_, _, rfl, ?_, ?_, ?_⟩
      · intro e; cases e
      · intro _ _ _ e hp; cases e; exact ⟨b, β, S, hmu, by rw [hae (by omega)]⟩
      · intro e; cases e
  obtain ⟨base', cap', rfl, hb0, hb1, hb2⟩ := hdst
  have hrun : ∀ w', (match base' with | some a => storeCells a l' | none => pure () : Sem Unit).run P w = .ok () w' →
      (Builtin.copy_ argTypes ty args').run P w = .ok (goInt (Nat.min n dLen)) w' := by
    intro w' hst
    unfold Builtin.copy_
    simp only [t0, b0, b1, Sem.run_bind, run_underlying hu, Result.andThen_ok, hlen, run_sizeOf hs, k1]
    cases base' with
    | none => simp only [Sem.run_pure] at hst ⊢; cases hst; rfl
    | some a => simp only [Sem.run_bind] at hst ⊢; rw [hst]; rfl
  split at h5
  · rename_i h0
    rw [ret_eq] at h5
    cases h5
    have : l' = [] := by
      have : l'.length = 0 := by rw [k3, h0]; simp
      exact List.length_eq_zero_iff.1 this
    subst this
    refine ⟨μ, w, _, hrun w ?_, MExt.refl _ _ _, by rw [k4]; exact hS, .ground 1 rfl⟩
    cases base' <;> rfl
  · rename_i h0
    have hmin : 0 < dLen := by
      have : Nat.min n dLen ≤ dLen := Nat.min_le_right _ _
      omega
    split at h5
    · rename_i id off sp
      obtain ⟨b, β, S, hmu, rfl⟩ := hb1 _ _ _ rfl hmin
      simp only [bind_eq, ret_eq, Prod.mk.injEq] at h5
      obtain ⟨u, B2, h6, rfl, rfl⟩ := h5
      obtain ⟨w', g1, g2, g3, g4⟩ := aStoreAt_good (P := P) hSB h6 hmu k2
      exact ⟨μ, w', _, hrun w' g1, MExt.refl _ _ _, by rw [← k6]; exact g2, .ground 1 rfl⟩
    · simp [fail_eq] at h5

/-- an object that is no row of cells, written on both sides -/
theorem Sim.putObj {id b β S : Nat} {o o2 o' o2' : Obj} (hS : Sim B₀ w₀ A.ro μ A.get w) (hl : id < lim) (hro : A.ro ≤ id) (ho : A.get id = some o) (hm : μ id = some (b, β, S)) (hb : w.heap[b]? = some o')
    (h2 : OMatch μ β S o2 o2') : Sim B₀ w₀ A.ro μ (A.write id (some o2)).get (putO w b o2') := by
  refine hS.upd id b β S o2 o2' (MLe.refl μ) (fun _ _ _ hp => hp) hm ?_ ?_ ?_ ?_ (putO_at hb) h2 ?_ rfl rfl rfl ?_ ?_
  · intro x o hne hx; rw [St.write_get _ _ _ _ hl, if_neg hne] at hx; exact hx
  · rw [St.write_get _ _ _ _ hl, if_pos rfl]
  · intro x o β' S' hne hx hmx
    rw [St.write_get _ _ _ _ hl, if_neg hne] at hx
    exact hne (hS.inj x id o _ _ _ _ _ _ hx ho hmx hm)
  · intro k hk _; exact putO_other hk
  · exact hS.low id b β S hro hm
  · simp [putO]
  · have := hS.top _ _ _ _ hm; simpa [putO] using this

theorem run_setObj {r : Nat} {o o' : Obj} (h : w.heap[r]? = some o) (hc : ∀ c e f, o ≠ .cells c e f) : (setObj r o').run P w = .ok () (putO w r o') := by
  unfold setObj
  rw [Sem.run]
  simp only [h]
  cases o <;> first | rfl | exact absurd rfl (hc _ _ _)

theorem run_getObj {r : Nat} {o : Obj} (h : w.heap[r]? = some o) (hc : ∀ c e f, o ≠ .cells c e f) : (getObj r).run P w = .ok o w := by
  unfold getObj
  rw [Sem.run]
  simp only [h]
  cases o <;> first | rfl | exact absurd rfl (hc _ _ _)

/-- a map, on both sides -/
theorem Sim.map (hS : Sim B₀ w₀ A.ro μ A.get w) {r b β S : Nat} {es : Array MapEntry} {clock : Nat} (h : A.get r = some (.map es clock)) (hm : μ r = some (b, β, S)) :
    ∃ es', w.heap[b]? = some (.map es' clock) ∧ β = 0 ∧ ER μ es.toList es'.toList := by
  obtain ⟨o', h1, h2⟩ := hS.at h hm
  obtain ⟨es', rfl, h3, h4⟩ := h2
  exact ⟨es', h1, h3, h4⟩

theorem aClear_good {argTypes : Array TypeId} {ty : TypeId} {args args' : Array Value} {v : Value} {A' : St} (hS : Sim B₀ w₀ A.ro μ A.get w) (h : aClear P argTypes args A = some (v, A'))
    (ha : LR μ args.toList args'.toList) : Good P B₀ w₀ μ A A' (Builtin.clear_ argTypes ty args') w v := by
  unfold aClear at h
  cases t0 : argTypes[0]? with
  | none => simp [t0, fail_eq] at h
  | some t =>
  cases a0 : args[0]? with
  | none => simp [t0, a0, fail_eq] at h
  | some x =>
  simp only [t0, a0] at h
  obtain ⟨x', b0, hx⟩ := ha.arr? a0
  cases hu : P.underlying t with
  | none => simp [hu, fail_eq] at h
  | some d =>
  simp only [hu] at h
  cases x <;> first | ((cases d <;> simp [fail_eq] at h); done) | skip
  · -- a slice
    rename_i a n cap
    cases a with
    | none =>
      have h : M.ret (Value.tuple #[]) A = some (v, A') := by cases d <;> simpa using h
      rw [ret_eq] at h
      cases h
      have e := hx.same 1 rfl
      subst e
      refine ⟨μ, w, .tuple #[], ?_, MExt.refl _ _ _, hS, .ground 1 rfl⟩
      unfold Builtin.clear_
      simp only [t0, b0, Sem.run_bind, run_underlying hu, Result.andThen_ok]
      rfl
    | some a =>
      cases n with
      | zero =>
        have h : M.ret (Value.tuple #[]) A = some (v, A') := by cases d <;> simpa using h
        rw [ret_eq] at h
        cases h
        refine ⟨μ, w, .tuple #[], ?_, MExt.refl _ _ _, hS, .ground 1 rfl⟩
        unfold Builtin.clear_
        cases hx with
        | ground k hg => cases k <;> simp [ground] at hg
        | slice hmu => simp only [t0, b0, Sem.run_bind, run_underlying hu, Result.andThen_ok]; rfl
        | soft hmu hl hae hs => simp only [t0, b0, Sem.run_bind, run_underlying hu, Result.andThen_ok]; rfl
      | succ n =>
        cases d <;> try (simp [fail_eq] at h; done)
        rename_i elem
        obtain ⟨id, off, sp⟩ := a
        simp only [bind_eq, opt_eq, ret_eq, Prod.mk.injEq] at h
        obtain ⟨z, B1, ⟨hz, rfl⟩, u, B2, h3, rfl, rfl⟩ := h
        obtain ⟨_, _, _, hg⟩ := tzero_info hz
        have hzr : LR μ (Builtin.zeroCells z.cells (n + 1)).toList (Builtin.zeroCells z.cells (n + 1)).toList := by rw [zeroCells_refl]; exact zeros_refl hg _
        have hx' : ∃ b β S cap', μ id = some (b, β, S) ∧ x' = .slice (some ⟨b, β + off, none⟩) (n + 1) cap' := by
          cases hx with
          | ground k hg => cases k <;> simp [ground] at hg
          | @slice id off b β S len cap hmu => exact ⟨b, β, S, _, hmu, rfl⟩
          | @soft id off b β S len c sz cap' a' hmu hle hae hss => exact ⟨b, β, S, cap', hmu, by rw [hae (by omega)]⟩
        obtain ⟨b, β, S, cap', hmu, rfl⟩ := hx'
        obtain ⟨w', g1, g2, g3, g4⟩ := aStoreAt_good (P := P) hS h3 hmu hzr
        refine ⟨μ, w', .tuple #[], ?_, MExt.refl _ _ _, g2, .ground 1 rfl⟩
        unfold Builtin.clear_
        simp only [t0, b0, Sem.run_bind, run_underlying hu, Result.andThen_ok, run_zeroValue hz, g1, Sem.run_pure]
  · -- a map
    rename_i m
    cases m with
    | none => cases d <;> simp [fail_eq] at h
    | some r =>
      have h : (do
          match ← rd r with
          | .map _ clock => do
            wr r (some (.map #[] clock))
            M.ret (.tuple #[])
          | _ => M.fail : M Value) A = some (v, A') := by cases d <;> exact h
      simp only [bind_eq, rd_eq] at h
      obtain ⟨o, B1, ⟨h1, rfl⟩, h2⟩ := h
      cases o <;> try (simp [fail_eq] at h2; done)
      rename_i es clock
      simp only [bind_eq, wr_eq, ret_eq, Prod.mk.injEq, St.look_ro] at h2
      obtain ⟨u, B2, ⟨hl, hro, rfl⟩, rfl, rfl⟩ := h2
      cases hx with
      | ground k hg => cases k <;> simp [ground] at hg
      | @map id b β S hmu =>
        obtain ⟨es', e1, rfl, e2⟩ := hS.map h1 hmu
        refine ⟨μ, _, .tuple #[], ?_, MExt.refl _ _ _, Sim.putObj (A := A.look r) hS hl hro h1 hmu e1 (o2' := .map #[] clock) ⟨#[], rfl, rfl, .nil⟩, .ground 1 rfl⟩
        unfold Builtin.clear_
        have q1 := run_getObj (P := P) e1 (by intro c e f; simp)
        have q2 := run_setObj (P := P) (o' := .map #[] clock) e1 (by intro c e f; simp)
        cases d <;> simp only [t0, b0, Sem.run_bind, run_underlying hu, Result.andThen_ok, q1, q2, Sem.run_pure]

theorem aLenOp_good {argTypes : Array TypeId} {ty : TypeId} {args args' : Array Value} {v : Value} {A' : St} (hS : Sim B₀ w₀ A.ro μ A.get w) (h : aLenOp P argTypes args A = some (v, A'))
    (ha : LR μ args.toList args'.toList) : Good P B₀ w₀ μ A A' (Builtin.len_ argTypes ty args') w v := by
  unfold aLenOp at h
  cases t0 : argTypes[0]? with
  | none => simp [t0, fail_eq] at h
  | some t =>
  cases a0 : args[0]? with
  | none => simp [t0, a0, fail_eq] at h
  | some x =>
  simp only [t0, a0] at h
  obtain ⟨x', b0, hx⟩ := ha.arr? a0
  cases hu : P.underlying t with
  | none => simp [hu, fail_eq] at h
  | some d =>
  simp only [hu] at h
  cases d <;> cases x <;> try (simp [fail_eq] at h; done)
  · rename_i s
    simp only [ret_eq, Prod.mk.injEq] at h
    obtain ⟨rfl, rfl⟩ := h
    have e := hx.same 1 rfl
    subst e
    refine Good.quiet hS rfl (v' := goInt s.size) ?_ (.ground 1 rfl)
    unfold Builtin.len_
    simp only [t0, b0, Sem.run_bind, run_underlying hu, Result.andThen_ok, Sem.run_pure]
  · rename_i elem a n cap
    simp only [ret_eq, Prod.mk.injEq] at h
    obtain ⟨rfl, rfl⟩ := h
    refine Good.quiet hS rfl (v' := goInt n) ?_ (.ground 1 rfl)
    unfold Builtin.len_
    cases hx <;> simp only [t0, b0, Sem.run_bind, run_underlying hu, Result.andThen_ok, Sem.run_pure]
  · rename_i elem r0
    cases r0 with
    | none => simp [fail_eq] at h
    | some r =>
      have tk : Tok r x' := by
        cases hx with
        | ground n hg => cases n <;> simp [ground] at hg
        | unk _ ht => exact ht.2.2.2
      simp only at h
      cases h8 : Nat.beq r 8 with
      | true =>
        rw [h8] at h
        simp only [ret_eq, Prod.mk.injEq] at h
        obtain ⟨rfl, rfl⟩ := h
        obtain ⟨a, cap, rfl⟩ := tk.2.2.2.2.1 (Nat.eq_of_beq_eq_true h8)
        refine Good.quiet hS rfl (v' := goInt 0) ?_ (.ground 1 rfl)
        unfold Builtin.len_
        simp only [t0, b0, Sem.run_bind, run_underlying hu, Result.andThen_ok, Sem.run_pure]
        rfl
      | false =>
        rw [h8] at h
        simp only at h
        cases h7 : Nat.beq r 7 with
        | true =>
          rw [h7] at h
          simp only [ret_eq, Prod.mk.injEq] at h
          obtain ⟨rfl, rfl⟩ := h
          obtain ⟨a, len, cap, rfl, hl⟩ := tk.2.2.2.1 (Nat.eq_of_beq_eq_true h7)
          refine Good.quiet hS rfl (v' := goInt len) ?_ (.unk rfl (Tag.tok (by decide) (by decide) ⟨fun _ => ⟨_, rfl, by omega⟩, fun e => by omega, fun e => by omega, fun e => by omega, fun e => by omega, fun e => by omega⟩))
          unfold Builtin.len_
          simp only [t0, b0, Sem.run_bind, run_underlying hu, Result.andThen_ok, Sem.run_pure]
        | false => rw [h7] at h; simp [fail_eq] at h
  · rename_i kt et m
    cases m with
    | none =>
      simp only [ret_eq, Prod.mk.injEq] at h
      obtain ⟨rfl, rfl⟩ := h
      have e := hx.same 1 rfl
      subst e
      refine Good.quiet hS rfl (v' := goInt 0) ?_ (.ground 1 rfl)
      unfold Builtin.len_
      simp only [t0, b0, Sem.run_bind, run_underlying hu, Result.andThen_ok, Sem.run_pure]
    | some r =>
      simp only [bind_eq, rd_eq] at h
      obtain ⟨o, B1, ⟨h1, rfl⟩, h2⟩ := h
      cases o <;> try (simp [fail_eq] at h2; done)
      rename_i es clock
      simp only [ret_eq, Prod.mk.injEq] at h2
      obtain ⟨rfl, rfl⟩ := h2
      cases hx with
      | ground k hg => cases k <;> simp [ground] at hg
      | @map id b β S hmu =>
        obtain ⟨es', e1, rfl, e2⟩ := hS.map h1 hmu
        have hlen : es'.size = es.size := by have := e2.length; simpa using this.symm
        refine Good.quiet hS rfl (v' := goInt es.size) ?_ (.ground 1 rfl)
        unfold Builtin.len_
        simp only [t0, b0, Sem.run_bind, run_underlying hu, Result.andThen_ok, run_getObj (P := P) e1 (by intro c e f; simp), Sem.run_pure, hlen]

end
end Go.Det
