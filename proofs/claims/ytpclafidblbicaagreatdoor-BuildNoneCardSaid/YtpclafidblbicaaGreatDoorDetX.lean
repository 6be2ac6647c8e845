/- The evaluator over all orders: slices.Collect over a map's keys, any of whose orders may come. -/
import Derived.Test.YtpclafidblbicaaGreatDoorDetW
import Derived.Test.YtpclafidblbicaaGreatDoorDetS
namespace Go.Det
open Go.RowKit (Below)

/-! ### All orders of a list -/
section
variable {α : Type}

def putIn (x : α) : List α → List (List α)
  | [] => [[x]]
  | y :: l => (x :: y :: l) :: (putIn x l).map (y :: ·)

def ordersOf : List α → List (List α)
  | [] => [[]]
  | x :: l => (ordersOf l).flatMap (putIn x)

theorem putIn_mem (x : α) (b : List α) : ∀ a : List α, a ++ x :: b ∈ putIn x (a ++ b)
  | [] => by cases b <;> simp [putIn]
  | y :: a => by
    have := putIn_mem x b a
    simp only [List.cons_append, putIn, List.mem_cons, List.mem_map]
    exact .inr ⟨_, this, rfl⟩

theorem ordersOf_mem : ∀ {l l' : List α}, l'.Perm l → l' ∈ ordersOf l
  | [], l', h => by
    have := h.length_eq
    have : l' = [] := List.eq_nil_of_length_eq_zero (by simpa using this)
    subst this
    simp [ordersOf]
  | x :: l, l', h => by
    have hx : x ∈ l' := h.symm.subset List.mem_cons_self
    obtain ⟨a, b, rfl⟩ := List.append_of_mem hx
    have hp : (a ++ b).Perm l := (List.perm_middle.symm.trans h).cons_inv
    simp only [ordersOf, List.mem_flatMap]
    exact ⟨_, ordersOf_mem hp, putIn_mem x b a⟩
end

/-! ### The step -/
def aCollect (kg : FuncId) (k : Nat) (okB : Value → Bool) (args : Array Value) : M (List Alt) := do
  let id ← M.opt (boxOf kg args.toList)
  let o ← rd id
  match ← M.opt (mapIn o) with
  | none => M.ret [.row k []]
  | some r => do
    let (es, clock) ← rdMap r
    match es.toList.all (fun e => okB e.key) && onceB Nat.beq (es.toList.map (·.born)) && es.toList.all (fun e => Nat.blt e.born clock) && Nat.ble es.toList.length 1000 with
    | true => M.ret ((ordersOf (es.toList.map (·.key))).map fun l => .row k (l.flatMap fun v => v.cells.toList))
    | false => M.fail

theorem aCollect_loc (kg : FuncId) (k : Nat) (okB : Value → Bool) (args : Array Value) : Loc (aCollect kg k okB args) := by
  unfold aCollect
  repeat' first
    | exact Loc.ret _
    | exact Loc.fail
    | exact Loc.opt _
    | exact Loc.rd _
    | exact rdMap_loc _
    | refine Loc.bind ?_ fun _ => ?_
    | split

theorem aCollect_same (kg : FuncId) (k : Nat) (okB : Value → Bool) (args : Array Value) (A : St) (l : List Alt) (B : St) (h : aCollect kg k okB args A = some (l, B)) : B.get = A.get ∧ B.next = A.next ∧ B.ro = A.ro := by
  unfold aCollect at h
  simp only [bind_eq, opt_eq, rd_eq] at h
  obtain ⟨id, B0, ⟨h0, rfl⟩, o, B1, ⟨ho, rfl⟩, mo, B2, ⟨h1, rfl⟩, h⟩ := h
  cases mo with
  | none =>
    simp only [ret_eq, Prod.mk.injEq] at h
    obtain ⟨_, rfl⟩ := h
    exact ⟨rfl, rfl, rfl⟩
  | some r =>
    simp only [bind_eq] at h
    obtain ⟨⟨es, clock⟩, B2, h2, h⟩ := h
    obtain ⟨_, rfl⟩ := rdMap_eq h2
    simp only at h
    generalize (es.toList.all (fun e => okB e.key) && onceB Nat.beq (es.toList.map (·.born)) && es.toList.all (fun e => Nat.blt e.born clock) && Nat.ble es.toList.length 1000) = q at h
    cases q with
    | true =>
      simp only [ret_eq, Prod.mk.injEq] at h
      obtain ⟨_, rfl⟩ := h
      exact ⟨rfl, rfl, rfl⟩
    | false => simp [fail_eq] at h

def collectY (kg : FuncId) (k : Nat) (okB : Value → Bool) : Many := ⟨aCollect kg k okB, aCollect_loc kg k okB, aCollect_same kg k okB⟩

/-! ### What is asked of the program -/
/-- slices.Collect (function co), over maps.Keys's iterator (function kg); k: the cells of a key -/
structure Collects (P : Program) (co kg : FuncId) (k : Nat) (okB : Value → Bool) : Prop where
  pos : 0 < k
  ok : ∀ v, okB v = true → v.cells.size = k ∧ v.cells.toList.all Det.gr = true
  nil : ∀ (Bm : Nat) (w : World), Bm < w.heap.size → w.cell? ⟨Bm, 0, none⟩ = some (.map none) →
    Calls P co #[.func (.func kg) #[] #[.pointer (some ⟨Bm, 0, none⟩)]] w fun e w' => e = .returned (.slice none 0 0) ∧ Below w.heap.size w w'
  map : ∀ (Bm b : Nat) (es : Array MapEntry) (clock : Nat) (w : World), Bm < w.heap.size → w.cell? ⟨Bm, 0, none⟩ = some (.map (some b)) → w.heap[b]? = some (.map es clock) → (∀ x ∈ es.toList, x.born < clock) →
    (es.toList.map (·.born)).Nodup → es.size ≤ 1000 → (∀ x ∈ es.toList, okB x.key = true) →
    Calls P co #[.func (.func kg) #[] #[.pointer (some ⟨Bm, 0, none⟩)]] w fun e w' => ∃ (v : Value) (ss : List Value) (t : TypeId), e = .returned v ∧ ss.Perm (es.toList.map (·.key)) ∧
      w'.ownsRow w.heap.size t k v ss.length (ss.flatMap fun v => v.cells.toList) ∧ (v = .slice none 0 0 ↔ ss = []) ∧ Below w.heap.size w w'

section
variable {P : Program} {co kg : FuncId} {k : Nat} {okB : Value → Bool}

theorem ER.keys {μ : Mu} {es es' : List MapEntry} (h : ER μ es es') : es'.map (·.key) = es.map (·.key) := by
  induction h with
  | nil => rfl
  | cons hk _ _ _ _ ih => simp only [List.map_cons, hk, ih]

theorem ER.borns {μ : Mu} {es es' : List MapEntry} (h : ER μ es es') : es'.map (·.born) = es.map (·.born) := by
  induction h with
  | nil => rfl
  | cons _ _ hb _ _ ih => simp only [List.map_cons, hb, ih]

theorem collect_row (hc : Collects P co kg k okB) {B₀ : Nat} {w₀ : World} {args args' : Array Value} {μ : Mu} {A A1 : St} {w : World} {l : List Alt} (h : aCollect kg k okB args A = some (l, A1))
    (hS : Sim B₀ w₀ A.ro μ A.get w) (ha : LR μ args.toList args'.toList) :
    Calls P co args' w fun e w' => ∃ k cs, Alt.row k cs ∈ l ∧ ∀ v A2, aRowK k cs A1 = some (v, A2) → Free μ A1.next A2.next →
      ∃ μ' v', e = .returned v' ∧ MExt μ μ' A1.next A2.next ∧ Sim B₀ w₀ A1.ro μ' A2.get w' ∧ VRel μ' v v' := by
  unfold aCollect at h
  simp only [bind_eq, opt_eq, rd_eq] at h
  obtain ⟨id, B0, ⟨h0, rfl⟩, o, B1, ⟨ho, rfl⟩, mo, B2, ⟨h1, rfl⟩, h⟩ := h
  obtain ⟨b, S, hmu, rfl, hcell⟩ : ∃ b S, μ id = some (b, 0, S) ∧ args' = #[.func (.func kg) #[] #[.pointer (some ⟨b, 0, none⟩)]] ∧
      (mo = none ∧ w.cell? ⟨b, 0, none⟩ = some (.map none) ∨ ∃ r m β2 S2, mo = some r ∧ w.cell? ⟨b, 0, none⟩ = some (.map (some m)) ∧ μ r = some (m, β2, S2)) := by
    unfold boxOf at h0
    split at h0
    case h_2 => cases h0
    rename_i g0 first captured hargs
    split at h0
    case h_2 => cases h0
    rename_i id' hg hfirst hcap
    cases h0
    have hg := Nat.eq_of_beq_eq_true hg
    subst hg
    rw [hargs] at ha
    obtain ⟨y, hy, hrel⟩ := LR.one_inv ha
    obtain ⟨first', captured', rfl, hl1, hl2⟩ := hrel.func_inv
    rw [hfirst] at hl1
    rw [hcap] at hl2
    obtain ⟨p, hp, hprel⟩ := LR.one_inv hl2
    have hargs' : args' = #[.func (.func g0) #[] #[p]] := by
      refine Array.ext' ?_
      rw [hy]
      have e1 : first' = #[] := Array.ext' (LR.nil_inv hl1)
      have e2 : captured' = #[p] := Array.ext' hp
      rw [e1, e2]
    unfold mapIn at h1
    split at h1
    case h_2 => cases h1
    rename_i c e fz
    split at h1
    case h_2 => cases h1
    rename_i m hfz hc0
    cases h1
    cases hprel with
    | ground n hgr => cases n <;> simp [ground] at hgr
    | @ptr id off b β S hmu =>
      obtain ⟨c', e', lo, hi, k1, k2, k3, k4, k5⟩ := hS.cells ho hmu
      have hβ := hS.box ho hmu (Nat.eq_of_beq_eq_true hfz)
      subst hβ
      rw [List.drop_zero] at k5
      have hk := k5.getD 0
      have hsz : 0 < c.size := by
        rw [Array.getElem?_eq_some_iff] at hc0
        exact hc0.1
      have e1 : c.toList.getD 0 undef = .map mo := by rw [List.getD_eq_getElem?_getD, Array.getElem?_toList, hc0]; rfl
      rw [e1] at hk
      have hs' : 0 < c'.size := by omega
      rw [List.getD_eq_getElem?_getD, List.getElem?_take_of_lt hsz, Array.getElem?_toList] at hk
      have hcell := cell_of_block (o := 0) k1
      rw [Array.getElem?_eq_getElem hs'] at hk hcell
      simp only [Option.getD_some] at hk
      generalize c'[0] = z at hk hcell
      cases hk with
      | ground n hgr =>
        cases mo with
        | none => exact ⟨b, S, hmu, hargs', .inl ⟨rfl, hcell⟩⟩
        | some r => cases n <;> simp [ground] at hgr
      | map hm2 => exact ⟨b, S, hmu, hargs', .inr ⟨_, _, _, _, rfl, hcell, hm2⟩⟩
  have hblt := hS.top _ _ _ _ hmu
  -- a row, and what it stands for
  have row : ∀ (A1 : St), A1.get = A.get → A1.next = A.next → A1.ro = A.ro → ∀ (w' : World) (v' : Value) (ss : List Value) (t : TypeId), (∀ x ∈ ss, okB x = true) → w'.ownsRow w.heap.size t k v' ss.length (ss.flatMap fun v => v.cells.toList) →
      (v' = .slice none 0 0 ↔ ss = []) → Below w.heap.size w w' → ∀ v A2, aRowK k (ss.flatMap fun v => v.cells.toList) A1 = some (v, A2) → Free μ A1.next A2.next →
      ∃ μ' v'', Ending.returned v' = .returned v'' ∧ MExt μ μ' A1.next A2.next ∧ Sim B₀ w₀ A1.ro μ' A2.get w' ∧ VRel μ' v v'' := by
    intro A1 a1 a2 a3 w' v' ss t hss hrow hnil hb v A2 h4 hf
    have hS' : Sim B₀ w₀ A1.ro μ A1.get w' := by rw [a1, a3]; exact Sim.later hS hb
    have hpos := hc.pos
    have hlen : (ss.flatMap fun v => v.cells.toList).length = ss.length * k := hrow.1
    have hgr : (ss.flatMap fun v => v.cells.toList).all Det.gr = true := by
      rw [List.all_eq_true]
      intro x hx
      obtain ⟨y, hy, hx⟩ := List.mem_flatMap.1 hx
      exact List.all_eq_true.1 (hc.ok y (hss y hy)).2 x hx
    generalize (ss.flatMap fun v => v.cells.toList) = L at h4 hlen hrow hgr
    cases L with
    | nil =>
      simp only [aRowK, ret_eq, Prod.mk.injEq] at h4
      obtain ⟨rfl, rfl⟩ := h4
      have : ss.length = 0 := by
        simp only [List.length_nil] at hlen
        rcases Nat.mul_eq_zero.1 hlen.symm with h | h
        · exact h
        · omega
      obtain rfl := hnil.2 (List.eq_nil_of_length_eq_zero this)
      exact ⟨μ, _, rfl, MExt.refl _ _ _, hS', .ground 1 rfl⟩
    | cons x tl =>
      simp only [aRowK, bind_eq, ret_eq, Prod.mk.injEq] at h4
      obtain ⟨id2, B4, h6, rfl, rfl⟩ := h4
      obtain ⟨ho1, hl, hro, rfl, rfl⟩ := aRow_eq h6
      simp only [List.length_cons] at hlen
      have hdiv : (tl.length + 1) / k = ss.length := by rw [hlen]; exact Nat.mul_div_cancel _ hpos
      have hne : ss.length ≠ 0 := by intro e; rw [e] at hlen; simp at hlen
      rcases hrow.2 with ⟨_, h0⟩ | ⟨gb, cap, cur, rfl, r0, r1, r2, r3, r4, r5⟩
      · omega
      · have hfree := hf A1.next (Nat.le_refl _) (Nat.lt_succ_self _)
        have hget : ∀ y, (A1.alloc (.cells ⟨x :: tl⟩ 0 (0, 0))).get y = if y = A1.next then some (.cells ⟨x :: tl⟩ 0 (0, 0)) else A1.get y := fun y => St.alloc_get A1 y _ hl
        have hgb : gb < w'.heap.size := (Array.getElem?_eq_some_iff.1 r1).1
        have hcap : ss.length * k ≤ cap * k := Nat.mul_le_mul_right _ r2
        refine ⟨μ.add A1.next (gb, 0, cur.size), _, rfl, Mu.add_ext hfree, ?_, ?_⟩
        · refine hS'.upd A1.next gb 0 cur.size (.cells ⟨x :: tl⟩ 0 (0, 0)) (.cells cur t (0, 0)) (Mu.add_le hfree) ?_ (Mu.add_self _ _ _) ?_ ?_ ?_ (fun _ _ _ => rfl) r1 ?_ ?_ rfl rfl rfl (Nat.le_refl _) hgb
          · intro y p hne hp; simpa [Mu.add, hne] using hp
          · intro y o hne hy; rw [hget, if_neg hne] at hy; exact hy
          · rw [hget, if_pos rfl]
          · intro y o β' S' hne hy hmy
            have := hS.top _ _ _ _ hmy
            omega
          · refine ⟨by simp, cur, t, 0, 0, rfl, rfl, ?_, by omega, ?_⟩
            · simp only [List.size_toArray, List.length_cons]; omega
            · rw [List.drop_zero]
              have : cur.toList.take (tl.length + 1) = x :: tl := by rw [hlen]; exact r5
              simp only [List.size_toArray, List.length_cons, this]
              exact LR.refl_ground 8 hgr
          · exact Nat.le_trans (Nat.le_trans hS.base hS.below.size) r0
        · rw [hdiv]
          exact VRel.soft (off := 0) (len := ss.length) (c := ss.length) (sz := k) (cap' := cap) (a' := ⟨gb, 0, none⟩) (Mu.add_self μ A1.next (gb, 0, cur.size)) r2 (fun _ => rfl) (by omega)
  rcases hcell with ⟨rfl, hcell⟩ | ⟨r, m, β2, S2, rfl, hcell, hm2⟩
  · simp only [ret_eq, Prod.mk.injEq] at h
    obtain ⟨rfl, rfl⟩ := h
    refine (hc.nil b w hblt hcell).mono ?_
    rintro e w' ⟨rfl, hb⟩
    exact ⟨k, [], by simp, fun v A2 hv hf => row (A.look id) rfl rfl rfl w' (.slice none 0 0) [] 0 (by simp) ⟨by simp, .inl ⟨rfl, rfl⟩⟩ (by simp) hb v A2 hv hf⟩
  · simp only [bind_eq] at h
    obtain ⟨⟨es, clock⟩, B2, h2, h⟩ := h
    obtain ⟨h5, rfl⟩ := rdMap_eq h2
    have h5 : A.get r = some (.map es clock) := h5
    obtain ⟨es', e1, rfl, e2⟩ := hS.map h5 hm2
    simp only at h
    generalize hq : (es.toList.all (fun e => okB e.key) && onceB Nat.beq (es.toList.map (·.born)) && es.toList.all (fun e => Nat.blt e.born clock) && Nat.ble es.toList.length 1000) = q at h
    cases q with
    | false => simp [fail_eq] at h
    | true =>
      simp only [ret_eq, Prod.mk.injEq] at h
      obtain ⟨rfl, rfl⟩ := h
      simp only [Bool.and_eq_true, List.all_eq_true, Nat.blt_eq, Nat.ble_eq] at hq
      obtain ⟨⟨⟨q1, q2⟩, q3⟩, q4⟩ := hq
      have hk := e2.keys
      have hbn := e2.borns
      have key_of : ∀ x ∈ es'.toList, okB x.key = true := by
        intro x hx
        have : x.key ∈ es'.toList.map (·.key) := List.mem_map_of_mem hx
        rw [hk] at this
        obtain ⟨y, hy, he⟩ := List.mem_map.1 this
        rw [← he]
        exact q1 y hy
      refine (hc.map b m es' clock w hblt hcell e1 ?_ ?_ ?_ key_of).mono ?_
      · intro x hx
        have : x.born ∈ es'.toList.map (·.born) := List.mem_map_of_mem hx
        rw [hbn] at this
        obtain ⟨y, hy, he⟩ := List.mem_map.1 this
        rw [← he]
        exact q3 y hy
      · rw [hbn]; exact onceB_nodup (fun a => by simp) q2
      · rw [← Array.length_toList, ← e2.length]; exact q4
      · rintro e w' ⟨v', ss, t, rfl, hperm, hrow, hnil, hb⟩
        refine ⟨k, _, List.mem_map.2 ⟨ss, ordersOf_mem (by rw [← hk]; exact hperm), rfl⟩, fun v A2 hv hf => row ((A.look id).look r) rfl rfl rfl w' v' ss t (fun x hx => ?_) hrow hnil hb v A2 hv hf⟩
        obtain ⟨y, hy, rfl⟩ := List.mem_map.1 (hperm.subset hx)
        exact key_of y hy
end

end Go.Det
