/- The evaluator: slices.Sorted over a map's keys. -/
import Derived.Test.YtpclafidblbicaaGreatDoorDetQ
import Derived.Lib.SlKeysI
namespace Go.Det
open Go.RowKit (Below)
open Go.Maps

/-! ### Sorting by insertion -/
section
variable {α : Type} (le : α → α → Bool)

def insB (x : α) : List α → List α
  | [] => [x]
  | y :: l => if le x y then x :: y :: l else y :: insB x l

def sortB : List α → List α
  | [] => []
  | x :: l => insB le x (sortB l)

theorem insB_perm (x : α) : ∀ l : List α, (insB le x l).Perm (x :: l)
  | [] => .refl _
  | y :: l => by
    unfold insB
    split
    · exact .refl _
    · exact ((insB_perm x l).cons y).trans (List.Perm.swap _ _ _)

theorem sortB_perm : ∀ l : List α, (sortB le l).Perm l
  | [] => .refl _
  | x :: l => (insB_perm le x _).trans ((sortB_perm l).cons x)

theorem insB_sorted (tr : ∀ a b c, le a b = true → le b c = true → le a c = true) (to : ∀ a b, (le a b || le b a) = true) (x : α) : ∀ l : List α, l.Pairwise (fun a b => le a b = true) → (insB le x l).Pairwise (fun a b => le a b = true)
  | [], _ => by simp [insB]
  | y :: l, h => by
    unfold insB
    rw [List.pairwise_cons] at h
    split
    · rename_i hxy
      refine List.pairwise_cons.2 ⟨fun z hz => ?_, List.pairwise_cons.2 h⟩
      rcases List.mem_cons.1 hz with rfl | hz
      · exact hxy
      · exact tr _ _ _ hxy (h.1 z hz)
    · rename_i hxy
      refine List.pairwise_cons.2 ⟨fun z hz => ?_, insB_sorted tr to x l h.2⟩
      rcases List.mem_cons.1 ((insB_perm le x l).mem_iff.1 hz) with rfl | hz
      · have := to z y; rw [Bool.or_eq_true] at this; exact this.resolve_left hxy
      · exact h.1 z hz

theorem sortB_sorted (tr : ∀ a b c, le a b = true → le b c = true → le a c = true) (to : ∀ a b, (le a b || le b a) = true) : ∀ l : List α, (sortB le l).Pairwise (fun a b => le a b = true)
  | [] => .nil
  | x :: l => insB_sorted le tr to x _ (sortB_sorted tr to l)

theorem sortB_eq (tr : ∀ a b c, le a b = true → le b c = true → le a c = true) (to : ∀ a b, (le a b || le b a) = true) (an : ∀ a b, le a b = true → le b a = true → a = b) {ss l : List α} (h : ss.Perm l) : ss.mergeSort le = sortB le l :=
  List.Perm.eq_of_pairwise (le := fun a b => le a b = true) (fun a b _ _ h1 h2 => an a b h1 h2) (List.pairwise_mergeSort tr to ss) (sortB_sorted le tr to l) (((List.mergeSort_perm ss le).trans h).trans (sortB_perm le l).symm)
end

/-! ### A map's keys -/
def onceB {α : Type} (same : α → α → Bool) : List α → Bool
  | [] => true
  | x :: l => !l.any (same x) && onceB same l

theorem onceB_nodup {α : Type} {same : α → α → Bool} (h : ∀ a, same a a = true) : ∀ {l : List α}, onceB same l = true → l.Nodup
  | [], _ => List.nodup_nil
  | x :: l, e => by
    simp only [onceB, Bool.and_eq_true, Bool.not_eq_true', List.any_eq_false] at e
    refine List.nodup_cons.2 ⟨fun hx => e.1 x hx (h x), onceB_nodup h e.2⟩

/-- a kind of keys: what is read of a key, and how it is ordered -/
structure KeyKind (α : Type) where
  get : Value → Option α
  enc : α → Value
  le : α → α → Bool
  same : α → α → Bool

def keyList {α : Type} (K : KeyKind α) : List MapEntry → Option (List α)
  | [] => some []
  | e :: es =>
    match K.get e.key, keyList K es with
    | some x, some l => some (x :: l)
    | _, _ => none

def mapKeys {α : Type} (K : KeyKind α) (es : Array MapEntry) (clock : Nat) : Option (List α) :=
  match keyList K es.toList with
  | some l => if onceB K.same l && onceB Nat.beq (es.toList.map (·.born)) && es.toList.all (fun e => Nat.blt e.born clock) && Nat.ble es.toList.length 1048576 then some l else none
  | none => none

/-- the variable that the iterator looks into -/
def boxOf (kg : FuncId) (args : List Value) : Option Nat :=
  match args with
  | [.func (.func g) first captured] =>
    match Nat.beq g kg, first.toList, captured.toList with
    | true, [], [.pointer (some ⟨id, 0, none⟩)] => some id
    | _, _, _ => none
  | _ => none

/-- the map that lies in it -/
def mapIn (o : Obj) : Option (Option Nat) :=
  match o with
  | .cells c _ fz =>
    match Nat.beq fz.1 1, (c[0]? : Option Value) with
    | true, some (.map m) => some m
    | _, _ => none
  | _ => none

def aRowOf (l : List Value) : M Value :=
  match l with
  | [] => M.ret (.slice none 0 0)
  | x :: t => do
    let id ← aRow 0 ⟨x :: t⟩
    M.ret (.slice (some ⟨id, 0, some 1⟩) (t.length + 1) (t.length + 1))

def aSorted {α : Type} (kg : FuncId) (K : KeyKind α) (args : Array Value) : M Value := do
  let id ← M.opt (boxOf kg args.toList)
  let o ← rd id
  match ← M.opt (mapIn o) with
  | none => M.ret (.slice none 0 0)
  | some r => do
    let (es, clock) ← rdMap r
    let l ← M.opt (mapKeys K es clock)
    aRowOf ((sortB K.le l).map K.enc)

theorem aRowOf_loc (l : List Value) : Loc (aRowOf l) := by
  unfold aRowOf
  repeat' first
    | exact Loc.ret _
    | exact aRow_loc _ _
    | refine Loc.bind ?_ fun _ => ?_
    | split

theorem aSorted_loc {α : Type} (kg : FuncId) (K : KeyKind α) (args : Array Value) : Loc (aSorted kg K args) := by
  unfold aSorted
  repeat' first
    | exact Loc.ret _
    | exact Loc.fail
    | exact Loc.opt _
    | exact Loc.rd _
    | exact rdMap_loc _
    | exact aRowOf_loc _
    | refine Loc.bind ?_ fun _ => ?_
    | split

def sortedK {α : Type} (kg : FuncId) (K : KeyKind α) : Known := ⟨aSorted kg K, aSorted_loc kg K⟩

/-! ### What is asked of the program, and what follows -/
def keysOfD {α : Type} (unlit : Lit → α) : DataW Unit → List α
  | .map es => es.map fun p => unlit p.1
  | _ => []

structure KeyOK {α : Type} (P : Program) (kt : TypeId) (K : KeyKind α) (unlit : Lit → α) : Prop where
  get : ∀ {v : Value} {x : α}, K.get v = some x → ∃ l, keyOf P kt v = some l ∧ unlit l = x
  same : ∀ a, K.same a a = true
  tr : ∀ a b c, K.le a b = true → K.le b c = true → K.le a c = true
  to : ∀ a b, (K.le a b || K.le b a) = true
  an : ∀ a b, K.le a b = true → K.le b a = true → a = b
  enc : ∀ a, gr (K.enc a) = true

/-- slices.Sorted (function g), over maps.Keys's iterator (function kg) -/
structure SortsKeys {α : Type} (P : Program) (g kg : FuncId) (kt : TypeId) (K : KeyKind α) (unlit : Lit → α) : Prop where
  nil : ∀ (Bm : Nat) (w : World), Bm < w.heap.size → w.cell? ⟨Bm, 0, none⟩ = some (.map none) →
    Calls P g #[.func (.func kg) #[] #[.pointer (some ⟨Bm, 0, none⟩)]] w fun e w' => e = .returned (.slice none 0 0) ∧ Below w.heap.size w w'
  map : ∀ (Bm b nn : Nat) (D0 : DataW Unit) (R : Value → Option (DataW Unit × List MemPlace)) (w : World), Bm < w.heap.size → w.cell? ⟨Bm, 0, none⟩ = some (.map (some b)) → w.ownsMap P kt R b nn D0 → Maps.size D0 ≤ 1048576 →
    Calls P g #[.func (.func kg) #[] #[.pointer (some ⟨Bm, 0, none⟩)]] w fun e w' => ∃ (v : Value) (ss : List α) (t : TypeId), e = .returned v ∧ ss.Perm (keysOfD unlit D0) ∧
      w'.ownsRow w.heap.size t 1 v ss.length ((ss.mergeSort K.le).map K.enc) ∧ (v = .slice none 0 0 ↔ ss = []) ∧ Below w.heap.size w w'

theorem Sim.later {B₀ : Nat} {w₀ : World} {ro : Nat} {μ : Mu} {H : Nat → Option Obj} {w w' : World} (h : Sim B₀ w₀ ro μ H w) (hb : Below w.heap.size w w') : Sim B₀ w₀ ro μ H w' where
  ok := fun id o ho => by
    obtain ⟨b, β, S, o', h1, h2, h3⟩ := h.ok id o ho
    exact ⟨b, β, S, o', h1, (hb.block b (h.top _ _ _ _ h1)).trans h2, h3⟩
  inj := h.inj
  low := h.low
  top := fun id b β S hm => Nat.lt_of_lt_of_le (h.top _ _ _ _ hm) hb.size
  below := h.below.trans (hb.mono (Nat.le_trans h.base h.below.size))
  base := h.base

section
variable {α : Type} {P : Program} {g kg : FuncId} {kt : TypeId} {K : KeyKind α} {unlit : Lit → α}

theorem keyList_len {K : KeyKind α} : ∀ {es : List MapEntry} {l : List α}, keyList K es = some l → l.length = es.length
  | [], l, h => by simp only [keyList, Option.some.injEq] at h; subst h; rfl
  | e :: es, l, h => by
    unfold keyList at h
    split at h
    · rename_i x l' _ h2
      cases h
      simp [keyList_len h2]
    · cases h

theorem keyList_mem {K : KeyKind α} : ∀ {es : List MapEntry} {l : List α}, keyList K es = some l → ∀ e ∈ es, ∃ x, K.get e.key = some x
  | [], l, h => by simp
  | e :: es, l, h => by
    unfold keyList at h
    split at h
    · rename_i x l' h1 h2
      intro e' he
      rcases List.mem_cons.1 he with rfl | he
      · exact ⟨x, h1⟩
      · exact keyList_mem h2 e' he
    · cases h

theorem keyList_nodup {K : KeyKind α} : ∀ {es : List MapEntry} {l : List α}, keyList K es = some l → l.Nodup → (es.map (·.key)).Nodup
  | [], l, h, _ => List.nodup_nil
  | e :: es, l, h, hn => by
    unfold keyList at h
    split at h
    · rename_i x l' h1 h2
      cases h
      rw [List.nodup_cons] at hn
      refine List.nodup_cons.2 ⟨fun hm => ?_, keyList_nodup h2 hn.2⟩
      obtain ⟨e', he', hk⟩ := List.mem_map.1 hm
      refine hn.1 ?_
      have : ∀ {es : List MapEntry} {l : List α}, keyList K es = some l → e' ∈ es → x ∈ l := by
        intro es
        induction es with
        | nil => intro l _ he; cases he
        | cons e0 es ih =>
          intro l h he
          unfold keyList at h
          split at h
          · rename_i x0 l0 g1 g2
            cases h
            rcases List.mem_cons.1 he with rfl | he
            · rw [hk, h1] at g1; cases g1; exact List.mem_cons_self
            · exact List.mem_cons_of_mem _ (ih g2 he)
          · cases h
      exact this h2 he'
    · cases h

theorem keyList_rel {μ : Mu} {K : KeyKind α} {es es' : List MapEntry} (h : ER μ es es') : keyList K es' = keyList K es ∧ es'.map (·.born) = es.map (·.born) ∧ es'.length = es.length := by
  induction h with
  | nil => exact ⟨rfl, rfl, rfl⟩
  | cons hk hg hb hv _ ih => exact ⟨by unfold keyList; rw [hk, ih.1], by simp only [List.map_cons, hb, ih.2.1], by simp [ih.2.2]⟩

def anyR : Value → Option (DataW Unit × List MemPlace) := fun _ => some (.nil, [])

theorem keyList_rg (hK : KeyOK P kt K unlit) : ∀ {es : List MapEntry} {l : List α}, keyList K es = some l → (es.map (WideElems.rg P kt anyR)).map (fun p => unlit p.1) = l ∧ ∀ x ∈ es, ∃ y, WideElems.rd P kt anyR x = some y
  | [], l, h => by simp only [keyList, Option.some.injEq] at h; subst h; exact ⟨rfl, by simp⟩
  | e :: es, l, h => by
    unfold keyList at h
    split at h
    · rename_i x l' h1 h2
      cases h
      obtain ⟨a, b⟩ := keyList_rg hK h2
      obtain ⟨lit, hl, hu⟩ := hK.get h1
      have hrd : WideElems.rd P kt anyR e = some (lit, .nil) := by simp [WideElems.rd, hl, anyR]
      refine ⟨by simp only [List.map_cons, a, WideElems.rg_of hrd, hu], fun y hy => ?_⟩
      rcases List.mem_cons.1 hy with rfl | hy
      · exact ⟨_, hrd⟩
      · exact b y hy
    · cases h

/-- a map of such keys, in the model -/
theorem map_owned (hK : KeyOK P kt K unlit) {μ : Mu} {es es' : Array MapEntry} {clock b : Nat} {w : World} {l : List α} (he : ER μ es.toList es'.toList) (hb : w.heap[b]? = some (.map es' clock)) (h : mapKeys K es clock = some l) :
    ∃ D0, w.ownsMap P kt anyR b es'.size D0 ∧ Maps.size D0 ≤ 1048576 ∧ (keysOfD unlit D0).Perm l := by
  unfold mapKeys at h
  obtain ⟨r1, r2, r3⟩ := keyList_rel (K := K) he
  rw [← r1] at h
  split at h
  · rename_i l' hl
    split at h
    · rename_i hc
      cases h
      simp only [Bool.and_eq_true] at hc
      obtain ⟨⟨⟨c1, c2⟩, c3⟩, c4⟩ := hc
      rw [← r2] at c2
      obtain ⟨a, rd⟩ := keyList_rg hK hl
      have c4' := Nat.le_of_ble_eq_true c4
      refine ⟨_, ⟨es', clock, hb, ⟨?_, ⟨?_, onceB_nodup (fun a => by simp) c2, keyList_nodup hl (onceB_nodup hK.same c1)⟩, rd⟩, Nat.le_refl _, rfl⟩, ?_, ?_⟩
      · rw [← Array.length_toList, r3]; exact Nat.le_trans c4' (by decide)
      · intro x hx
        have hm : x.born ∈ es'.toList.map (·.born) := List.mem_map_of_mem hx
        rw [r2] at hm
        obtain ⟨y, hy, e⟩ := List.mem_map.1 hm
        have := (List.all_eq_true.1 c3) y hy
        simp only [Nat.blt_eq] at this
        omega
      · show (List.foldr DataW.insert [] _).length ≤ _
        rw [(WideShapes.sorted_perm _).length_eq]
        simp only [List.length_map, r3]
        exact c4'
      · show (List.map _ (List.foldr DataW.insert [] _)).Perm _
        exact ((WideShapes.sorted_perm _).map _).trans (by rw [a])
    · cases h
  · cases h

/-- the contract, in the evaluator's words -/
theorem sorted_ok (hK : KeyOK P kt K unlit) (hs : SortsKeys P g kg kt K unlit) {B₀ : Nat} {w₀ : World} {args args' : Array Value} {μ : Mu} {A A' : St} {w : World} {v : Value} (h : aSorted kg K args A = some (v, A'))
    (hS : Sim B₀ w₀ A.ro μ A.get w) (hf : Free μ A.next A'.next) (ha : LR μ args.toList args'.toList) :
    Calls P g args' w fun e w' => ∃ μ' v', e = .returned v' ∧ MExt μ μ' A.next A'.next ∧ Sim B₀ w₀ A.ro μ' A'.get w' ∧ VRel μ' v v' := by
  unfold aSorted at h
  simp only [bind_eq, opt_eq, rd_eq] at h
  obtain ⟨id, B0, ⟨h0, rfl⟩, o, B1, ⟨ho, rfl⟩, mo, B2, ⟨h1, rfl⟩, h⟩ := h
  -- the arguments
  have hargs : ∃ b S, μ id = some (b, 0, S) ∧ args' = #[.func (.func kg) #[] #[.pointer (some ⟨b, 0, none⟩)]] ∧ w.cell? ⟨b, 0, none⟩ = some (.map none) ∧ mo = none ∨
      ∃ b S r m β2 S2, μ id = some (b, 0, S) ∧ args' = #[.func (.func kg) #[] #[.pointer (some ⟨b, 0, none⟩)]] ∧ w.cell? ⟨b, 0, none⟩ = some (.map (some m)) ∧ mo = some r ∧ μ r = some (m, β2, S2) := by
    unfold boxOf at h0
    split at h0
    case h_2 => cases h0
    rename_i g0 first captured hargs
    split at h0
    case h_2 => cases h0
    rename_i id' hg hfirst hcap
    cases h0
    have hg := Nat.eq_of_beq_eq_true hg
    subst hg
    rw [hargs] at ha
    obtain ⟨y, hy, hrel⟩ := LR.one_inv ha
    obtain ⟨first', captured', rfl, hl1, hl2⟩ := hrel.func_inv
    rw [hfirst] at hl1
    rw [hcap] at hl2
    obtain ⟨p, hp, hprel⟩ := LR.one_inv hl2
    have hargs' : args' = #[.func (.func g0) #[] #[p]] := by
      refine Array.ext' ?_
      rw [hy]
      have e1 : first' = #[] := Array.ext' (LR.nil_inv hl1)
      have e2 : captured' = #[p] := Array.ext' hp
      rw [e1, e2]
    unfold mapIn at h1
    split at h1
    case h_2 => cases h1
    rename_i c e fz
    split at h1
    case h_2 => cases h1
    rename_i m hfz hc0
    cases h1
    cases hprel with
    | ground n hgr => cases n <;> simp [ground] at hgr
    | @ptr id off b β S hmu =>
      obtain ⟨c', e', lo, hi, k1, k2, k3, k4, k5⟩ := hS.cells ho hmu
      have hβ := hS.box ho hmu (Nat.eq_of_beq_eq_true hfz)
      subst hβ
      rw [List.drop_zero] at k5
      have hk := k5.getD 0
      have hsz : 0 < c.size := by
        rw [Array.getElem?_eq_some_iff] at hc0
        exact hc0.1
      have e1 : c.toList.getD 0 undef = .map mo := by rw [List.getD_eq_getElem?_getD, Array.getElem?_toList, hc0]; rfl
      rw [e1] at hk
      have hs' : 0 < c'.size := by omega
      rw [List.getD_eq_getElem?_getD, List.getElem?_take_of_lt hsz, Array.getElem?_toList] at hk
      have hcell := cell_of_block (o := 0) k1
      rw [Array.getElem?_eq_getElem hs'] at hk hcell
      simp only [Option.getD_some] at hk
      generalize c'[0] = z at hk hcell
      cases hk with
      | ground n hgr =>
        cases mo with
        | none => exact ⟨b, S, .inl ⟨hmu, hargs', hcell, rfl⟩⟩
        | some r => cases n <;> simp [ground] at hgr
      | map hm2 => exact ⟨b, S, .inr ⟨b, S, _, _, _, _, hmu, hargs', hcell, rfl, hm2⟩⟩
  rcases hargs with ⟨b, S, ⟨hmu, rfl, hcell, rfl⟩ | ⟨b, S, r, m, β2, S2, hmu, rfl, hcell, rfl, hm2⟩⟩
  · have hblt := hS.top _ _ _ _ hmu
    simp only [ret_eq, Prod.mk.injEq] at h
    obtain ⟨rfl, rfl⟩ := h
    refine (hs.nil b w hblt hcell).mono ?_
    rintro e w' ⟨rfl, hb⟩
    exact ⟨μ, _, rfl, MExt.refl _ _ _, Sim.later hS hb, .ground 1 rfl⟩
  · have hblt := hS.top _ _ _ _ hmu
    simp only [bind_eq, opt_eq] at h
    obtain ⟨⟨es, clock⟩, B2, h2, l, B3, ⟨h3, rfl⟩, h4⟩ := h
    obtain ⟨h5, rfl⟩ := rdMap_eq h2
    have h5 : A.get r = some (.map es clock) := h5
    obtain ⟨es', e1, rfl, e2⟩ := hS.map h5 hm2
    obtain ⟨D0, hown, hsize, hperm⟩ := map_owned hK e2 e1 h3
    refine (hs.map b m es'.size D0 anyR w hblt hcell hown hsize).mono ?_
    rintro e w' ⟨v', ss, t, rfl, hss, hrow, hnil, hb⟩
    have hsort : ss.mergeSort K.le = sortB K.le l := sortB_eq K.le hK.tr hK.to hK.an (hss.trans hperm)
    have hlen : ss.length = ((sortB K.le l).map K.enc).length := by rw [← hsort, List.length_map, List.length_mergeSort]
    rw [hsort] at hrow
    have hgr : ((sortB K.le l).map K.enc).all Det.gr = true := by
      rw [List.all_eq_true]
      intro x hx
      obtain ⟨y, _, rfl⟩ := List.mem_map.1 hx
      exact hK.enc y
    have hS' := Sim.later hS hb
    generalize (sortB K.le l).map K.enc = L at h4 hlen hrow hgr
    cases L with
    | nil =>
      simp only [aRowOf, ret_eq, Prod.mk.injEq] at h4
      obtain ⟨rfl, rfl⟩ := h4
      obtain rfl := hnil.2 (List.eq_nil_of_length_eq_zero hlen)
      exact ⟨μ, _, rfl, MExt.refl _ _ _, hS', .ground 1 rfl⟩
    | cons x tl =>
      simp only [aRowOf, bind_eq, ret_eq, Prod.mk.injEq] at h4
      obtain ⟨id2, B4, h6, rfl, rfl⟩ := h4
      obtain ⟨ho1, hl, hro, rfl, rfl⟩ := aRow_eq h6
      simp only [List.length_cons] at hlen
      rcases hrow.2 with ⟨_, h0⟩ | ⟨gb, cap, cur, rfl, r0, r1, r2, r3, r4, r5⟩
      · omega
      · have hfree := hf A.next (Nat.le_refl _) (Nat.lt_succ_self _)
        have hget : ∀ y, (((A.look id).look r).alloc (.cells ⟨x :: tl⟩ 0 (0, 0))).get y = if y = A.next then some (.cells ⟨x :: tl⟩ 0 (0, 0)) else A.get y := fun y => St.alloc_get ((A.look id).look r) y _ hl
        have hgb : gb < w'.heap.size := (Array.getElem?_eq_some_iff.1 r1).1
        refine ⟨μ.add A.next (gb, 0, cur.size), _, rfl, Mu.add_ext hfree, ?_, ?_⟩
        · refine hS'.upd A.next gb 0 cur.size (.cells ⟨x :: tl⟩ 0 (0, 0)) (.cells cur t (0, 0)) (Mu.add_le hfree) ?_ (Mu.add_self _ _ _) ?_ ?_ ?_ (fun _ _ _ => rfl) r1 ?_ ?_ rfl rfl rfl (Nat.le_refl _) hgb
          · intro y p hne hp; simpa [Mu.add, hne] using hp
          · intro y o hne hy; rw [hget, if_neg hne] at hy; exact hy
          · rw [hget, if_pos rfl]
          · intro y o β' S' hne hy hmy
            have := hS.top _ _ _ _ hmy
            omega
          · refine ⟨by simp, cur, t, 0, 0, rfl, rfl, ?_, by omega, ?_⟩
            · simp only [List.size_toArray, List.length_cons]; omega
            · rw [List.drop_zero]
              have : cur.toList.take (tl.length + 1) = x :: tl := by rw [← hlen, ← Nat.mul_one ss.length]; exact r5
              simp only [List.size_toArray, List.length_cons, this]
              exact LR.refl_ground 8 hgr
          · exact Nat.le_trans (Nat.le_trans hS.base hS.below.size) r0
        · rw [hlen]
          have := VRel.soft (off := 0) (len := tl.length + 1) (c := tl.length + 1) (sz := 1) (cap' := cap) (a' := ⟨gb, 0, none⟩) (Mu.add_self μ A.next (gb, 0, cur.size)) (by omega) (fun _ => rfl) (by omega)
          exact this
end

end Go.Det
