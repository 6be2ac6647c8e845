/- The evaluator: stores, new objects, composite values, slices. -/
import Derived.Test.YtpclafidblbicaaGreatDoorDetC
namespace Go.Det
open Go.RowKit (Below)

section
variable {P : Program} {B₀ : Nat} {w₀ : World} {μ : Mu} {A : St} {w : World}

theorem aStoreAt_good {id off b β S : Nat} {vs vs' : List Value} {A' : St} {u : Unit} (hS : Sim B₀ w₀ A.ro μ A.get w) (h : aStoreAt id off vs A = some (u, A')) (hm : μ id = some (b, β, S))
    (hv : LR μ vs vs') : ∃ w', (storeCells ⟨b, β + off, none⟩ vs').run P w = .ok () w' ∧ Sim B₀ w₀ A.ro μ A'.get w' ∧ A'.next = A.next ∧ A'.ro = A.ro := by
  unfold aStoreAt at h
  simp only [bind_eq, rd_eq] at h
  obtain ⟨o, B1, ⟨h1, rfl⟩, h2⟩ := h
  cases o <;> try (simp [fail_eq] at h2; done)
  rename_i c e fz
  simp only at h2
  cases hb : (Nat.ble (off + vs.length) c.size && vs.all one) with
  | false => rw [hb] at h2; simp [fail_eq] at h2
  | true =>
    rw [hb] at h2
    simp only [wr_eq, St.look_ro] at h2
    obtain ⟨h3, h4, rfl⟩ := h2
    simp only [Bool.and_eq_true, ble_iff] at hb
    obtain ⟨c', e', lo, hi, k1, k2, k3, k4, k5⟩ := hS.cells h1 hm
    have hlen := hv.length
    have hrun := run_stores (P := P) (o := β + off) vs' 0 c' w k1 (by rw [k2]; exact k4) (by omega) (hv.one hb.2)
    simp only [Nat.add_zero] at hrun
    refine ⟨_, hrun, ?_, rfl, rfl⟩
    refine hS.upd id b β S (.cells (stCells c off vs) e fz) (.cells (stCells c' (β + off) vs') e' (lo, hi)) (MLe.refl μ) (fun _ _ _ hp => hp) hm ?_ ?_ ?_ ?_ (putO_at k1) ?_ ?_ rfl rfl rfl ?_ ?_
    · intro x o hne hx; rw [St.write_get _ _ _ _ h3, if_neg hne] at hx; exact hx
    · rw [St.write_get _ _ _ _ h3, if_pos rfl]
    · intro x o β' S' hne hx hmx
      rw [St.write_get _ _ _ _ h3, if_neg hne] at hx
      exact hne (hS.inj x id o _ _ _ _ _ _ hx h1 hmx hm)
    · intro k hk _; exact putO_other hk
    · refine ⟨hS.box h1 hm, _, _, lo, hi, rfl, by rw [stCells_size]; exact k2, by rw [stCells_size]; exact k3, k4, ?_⟩
      rw [stCells_size]
      exact LR.st (n := c.size) hv off c c' hb.1 rfl (by rw [k2]; exact k3) k5
    · exact hS.low id b β S h4 hm
    · simp [putO]
    · have := hS.top _ _ _ _ hm; simpa [putO] using this

theorem aStore_good {t : TypeId} {a a' v v' : Value} {A' : St} {u : Unit} (hS : Sim B₀ w₀ A.ro μ A.get w) (h : aStore P t a v A = some (u, A')) (ha : VRel μ a a') (hv : VRel μ v v') :
    GoodU P B₀ w₀ μ A A' (Instr.storeAt t a' v') w ∧ A'.next = A.next ∧ A'.ro = A.ro := by
  unfold aStore at h
  split at h
  · rename_i id off
    simp only [bind_eq, opt_eq] at h
    obtain ⟨n, B, ⟨h1, rfl⟩, h2⟩ := h
    split at h2
    · rename_i hc
      obtain ⟨hany, hsz⟩ := hc
      cases ha with
      | ground n hg => cases n <;> simp [ground] at hg
      | @ptr id off b β S hm =>
        have hcells := hv.cells hany
        obtain ⟨w', h3, h4, h5, h6⟩ := aStoreAt_good (P := P) hS h2 hm hcells
        refine ⟨⟨μ, w', ?_, MExt.refl _ _ _, h4⟩, h5, h6⟩
        have hlen : v'.cells.size = n := by have := hcells.length; simp at this; omega
        simp only [Instr.storeAt, Instr.sureAddr, storeVar, Sem.run_bind, Sem.run_pure, Result.andThen_ok, run_sizeOf h1, hlen]
        simpa using h3
    · simp [fail_eq] at h2
  · simp [fail_eq] at h

/-- a new row of cells on both sides: the model's may be longer -/
theorem Sim.row {e e' : TypeId} {fz : Nat × Nat} {cs c' : Array Value} (hS : Sim B₀ w₀ A.ro μ A.get w) (hl : A.next < lim) (hf : μ A.next = none) (hsz : cs.size ≤ c'.size)
    (hc : LR μ cs.toList (c'.toList.take cs.size)) (lo hi : Nat) (hfz : ∀ i, i < c'.size → ¬ (lo ≤ i ∧ i < hi)) :
    Sim B₀ w₀ A.ro (μ.add A.next (w.heap.size, 0, c'.size)) (A.alloc (.cells cs e fz)).get { w with heap := w.heap.push (.cells c' e' (lo, hi)) } := by
  refine hS.alloc hl hf ⟨fun _ => rfl, c', e', lo, hi, rfl, rfl, by omega, hfz, ?_⟩
  rw [List.drop_zero]
  exact hc.mono (Mu.add_le hf)

theorem aRow_eq {e : TypeId} {cs : Array Value} {id : Nat} {A' : St} (h : aRow e cs A = some (id, A')) :
    cs.toList.all one = true ∧ A.next < lim ∧ A.ro ≤ A.next ∧ id = A.next ∧ A' = A.alloc (.cells cs e (0, 0)) := by
  unfold aRow at h
  split at h
  · rename_i ho; exact ⟨ho, al_eq.1 h⟩
  · simp [fail_eq] at h

theorem aBox_eq {e : TypeId} {cs : Array Value} {id : Nat} {A' : St} (h : aBox e cs A = some (id, A')) :
    cs.toList.all one = true ∧ A.next < lim ∧ A.ro ≤ A.next ∧ id = A.next ∧ A' = A.alloc (.cells cs e (1, 0)) := by
  unfold aBox at h
  split at h
  · rename_i ho; exact ⟨ho, al_eq.1 h⟩
  · simp [fail_eq] at h

theorem aNew_good {t : TypeId} {v v' r : Value} {A' : St} (hS : Sim B₀ w₀ A.ro μ A.get w) (h : aNew t v A = some (r, A')) (hf : Free μ A.next A'.next) (hv : VRel μ v v') :
    Good P B₀ w₀ μ A A' (do pure (.pointer (some (← newVar t v')))) w r := by
  unfold aNew at h
  simp only [bind_eq, ret_eq, Prod.mk.injEq] at h
  obtain ⟨id, B, h1, rfl, rfl⟩ := h
  obtain ⟨ho, hl, _, rfl, rfl⟩ := aBox_eq h1
  have hany : isAny v = false := by
    cases v <;> try rfl
    rename_i r
    cases r
    · simp [Value.cells, one] at ho
    · rfl
  have hc := hv.cells hany
  have hlen : v.cells.size = v'.cells.size := by simpa using hc.length
  have hfree := hf A.next (Nat.le_refl _) (by simp)
  refine ⟨_, _, .pointer (some ⟨w.heap.size, 0, none⟩), ?_, Mu.add_ext hfree, hS.row (e' := t) (c' := v'.cells) hl hfree (by omega) ?_ 0 0 (by omega), ?_⟩
  · simp [newVar, newRow]
  · rw [List.take_of_length_le (by simp; omega)]; exact hc
  · have := VRel.ptr (off := 0) (Mu.add_self μ A.next (w.heap.size, 0, v'.cells.size))
    simpa using this

/-! ### Composite values -/
inductive PR (μ : Mu) : List (Nat × Value) → List (Nat × Value) → Prop
  | nil : PR μ [] []
  | cons {i : Nat} {x y : Value} {xs ys : List (Nat × Value)} (h : VRel μ x y) (hs : PR μ xs ys) : PR μ ((i, x) :: xs) ((i, y) :: ys)

theorem PR.of_map {ρ ρ' : Operand → Value} (h : ∀ x, VRel μ (ρ x) (ρ' x)) : ∀ l : List (Nat × Operand), PR μ (l.map fun (i, x) => (i, ρ x)) (l.map fun (i, x) => (i, ρ' x))
  | [] => .nil
  | (_, x) :: l => .cons (h x) (PR.of_map h l)

theorem LR.of_map {ρ ρ' : Operand → Value} (h : ∀ x, VRel μ (ρ x) (ρ' x)) : ∀ l : List Operand, LR μ (l.map ρ) (l.map ρ')
  | [] => .nil
  | x :: l => .cons (h x) (LR.of_map h l)

theorem LR.st0 : ∀ {vs vs' : List Value}, LR μ vs vs' → ∀ (off : Nat) (c c' : Array Value), LR μ c.toList c'.toList → LR μ (stCells c off vs).toList (stCells c' off vs').toList
  | _, _, .nil, off, c, c', h => h
  | v :: vs, v' :: vs', .cons hv hs, off, c, c', h => by
    simp only [stCells]
    refine LR.st0 hs (off + 1) _ _ ?_
    rw [Array.toList_setIfInBounds, Array.toList_setIfInBounds]
    exact h.set hv off

theorem fold_st : ∀ (l : List Value) (k off : Nat) (c : Array Value), (l.zipIdx k).foldl (fun cs (x : Value × Nat) => cs.setIfInBounds (off + x.2) x.1) c = stCells c (off + k) l
  | [], _, _, _ => rfl
  | v :: l, k, off, c => by
    simp only [List.zipIdx_cons, List.foldl_cons, stCells]
    rw [fold_st l (k + 1) off, Nat.add_assoc]

theorem fill_cons (place : Nat → Option (Nat × Nat)) (cells : Array Value) (i : Nat) (v : Value) (rest : List (Nat × Value)) :
    Instr.fill place cells ((i, v) :: rest) = match place i with
      | none => none
      | some (off, size) => if v.cells.size ≠ size || off + v.cells.size > cells.size then none else Instr.fill place (stCells cells off v.cells.toList) rest := by
  rw [Instr.fill]
  cases place i with
  | none => rfl
  | some p =>
    obtain ⟨off, size⟩ := p
    simp only
    congr 2
    rw [← Array.foldl_toList, Array.toList_zipIdx]
    exact fold_st v.cells.toList 0 off cells

theorem fill_rel {place : Nat → Option (Nat × Nat)} : ∀ {parts parts' : List (Nat × Value)}, PR μ parts parts' → ∀ {cells cells' r : Array Value}, LR μ cells.toList cells'.toList →
    parts.any (fun p => isAny p.2) = false → Instr.fill place cells parts = some r → ∃ r', Instr.fill place cells' parts' = some r' ∧ LR μ r.toList r'.toList
  | _, _, .nil, cells, cells', r, hc, _, h => by
    simp only [Instr.fill, Option.some.injEq] at h
    subst h
    exact ⟨cells', rfl, hc⟩
  | _, _, .cons (i := i) (x := x) (y := y) (xs := xs) (ys := ys) hv hs, cells, cells', r, hc, ha, h => by
    simp only [List.any_cons, Bool.or_eq_false_iff] at ha
    rw [fill_cons] at h ⊢
    cases hp : place i with
    | none => rw [hp] at h; cases h
    | some p =>
      obtain ⟨off, size⟩ := p
      rw [hp] at h
      simp only at h ⊢
      have hx := hv.cells ha.1
      have h1 : x.cells.size = y.cells.size := by simpa using hx.length
      have h2 : cells.size = cells'.size := by simpa using hc.length
      split at h
      · cases h
      · rename_i hn
        rw [h1, h2] at hn
        rw [if_neg hn]
        exact fill_rel hs (LR.st0 hx off cells cells' hc) ha.2 h

theorem aFill_rel {place : Nat → Option (Nat × Nat)} {parts parts' : List (Nat × Value)} (hp : PR μ parts parts') {cells cells' r : Array Value} (hc : LR μ cells.toList cells'.toList)
    (h : aFill place cells parts = some r) : ∃ r', Instr.fill place cells' parts' = some r' ∧ LR μ r.toList r'.toList := by
  unfold aFill at h
  split at h
  · cases h
  · rename_i ha; exact fill_rel hp hc (by simpa using ha) h

theorem run_mapM {α β : Type} {f : α → Sem β} {g : α → Option β} (hfg : ∀ a b, g a = some b → ∀ w, (f a).run P w = .ok b w) : ∀ (l : List α) (r : List β), l.mapM g = some r → ∀ w, (l.mapM f).run P w = .ok r w
  | [], r, h, w => by simp at h; subst h; rfl
  | a :: l, r, h, w => by
    simp only [List.mapM_cons, bind, Option.bind_eq_some_iff, pure, Option.some.injEq] at h
    obtain ⟨b, hb, bs, hbs, rfl⟩ := h
    simp only [List.mapM_cons, Sem.run_bind, hfg a b hb w, Result.andThen_ok, run_mapM hfg l bs hbs w, Sem.run_pure]

theorem cells_ground {z : Value} (h : gr z = true) : LR μ z.cells.toList z.cells.toList := by
  have ha : isAny z = false := by
    cases z <;> try rfl
    simp [gr, ground] at h
  exact (VRel.of_gr h).cells ha

theorem aBuild_good {t : TypeId} {parts parts' : Array (Nat × Value)} {v : Value} {A' : St} (hS : Sim B₀ w₀ A.ro μ A.get w) (h : M.opt (aBuild P t parts) A = some (v, A')) (hp : PR μ parts.toList parts'.toList) :
    Good P B₀ w₀ μ A A' (Instr.build t parts') w v := by
  rw [opt_eq] at h
  obtain ⟨h, rfl⟩ := h
  unfold aBuild at h
  cases hz : tzero P t with
  | none => rw [hz] at h; cases h
  | some z =>
    rw [hz] at h
    simp only at h
    obtain ⟨_, _, _, hg⟩ := tzero_info hz
    have hcz := cells_ground (μ := μ) hg
    cases hu : P.underlying t with
    | none => rw [hu] at h; cases h
    | some d =>
      rw [hu] at h
      cases d <;> try (simp at h; done)
      · rename_i len elem
        simp only at h
        cases hs : tsize P elem with
        | none => rw [hs] at h; cases h
        | some size =>
          rw [hs] at h
          simp only [Option.map_eq_some_iff] at h
          obtain ⟨r, h1, rfl⟩ := h
          obtain ⟨r', h2, h3⟩ := aFill_rel hp hcz h1
          refine Good.quiet hS rfl (v' := .agg r') ?_ (.agg (LR.arr h3).1 (LR.arr h3).2)
          simp [Instr.build, run_zeroValue hz, run_underlying hu, run_sizeOf hs, h2]
      · rename_i fields
        simp only at h
        cases hs : (fields.toList.mapM fun f => (tsize P f.type).map fun s => (f.offset, s)) with
        | none => rw [hs] at h; cases h
        | some places =>
          rw [hs] at h
          simp only [Option.map_eq_some_iff] at h
          obtain ⟨r, h1, rfl⟩ := h
          obtain ⟨r', h2, h3⟩ := aFill_rel hp hcz h1
          refine Good.quiet hS rfl (v' := .agg r') ?_ (.agg (LR.arr h3).1 (LR.arr h3).2)
          have hpl : (fields.mapM fun f => do pure (f.offset, ← sizeOf f.type) : Sem (Array (Nat × Nat))).run P w = .ok places.toArray w := by
            rw [Array.mapM_eq_mapM_toList]
            simp only [Sem.run_map]
            rw [run_mapM (P := P) (g := fun f => (tsize P f.type).map fun s => (f.offset, s)) _ _ _ hs]
            · rfl
            · intro a b hb w
              simp only [Option.map_eq_some_iff] at hb
              obtain ⟨s, h4, rfl⟩ := hb
              simp [run_sizeOf h4]
          simp only [Instr.build, Sem.run_bind, run_zeroValue hz, Result.andThen_ok, run_underlying hu, hpl]
          simp [h2]

theorem LR.refl_all {l : List Value} (h : ∀ v ∈ l, VRel μ v v) : LR μ l l := by
  induction l with
  | nil => exact .nil
  | cons v l ih => exact .cons (h v (by simp)) (ih fun x hx => h x (by simp [hx]))

theorem ground_cells {z : Value} (h : gr z = true) : ∀ v ∈ z.cells.toList, ground 8 v = true := by
  intro v hv
  cases z <;> simp only [Value.cells, List.mem_singleton] at hv <;> first
    | (subst hv; exact h)
    | (simp only [gr, ground, List.all_eq_true] at h; exact ground_mono 7 _ (h v hv))

theorem cell_ground {z : Value} (h : gr z = true) (i : Nat) : ground 8 z.cells[i]! = true := by
  by_cases hlt : i < z.cells.size
  · rw [getElem!_pos z.cells _ hlt]
    exact ground_cells h _ (by simp)
  · rw [getElem!_neg z.cells _ hlt]
    rfl

theorem zeros_refl {z : Value} (h : gr z = true) (n : Nat) : LR μ (zeros z n).toList (zeros z n).toList := by
  refine LR.refl_all fun v hv => ?_
  unfold zeros at hv
  simp only [Array.toList_map, List.mem_map] at hv
  obtain ⟨i, _, rfl⟩ := hv
  exact .ground 8 (cell_ground h _)

theorem aBuildSlice_good {t : TypeId} {len : Nat} {parts parts' : Array (Nat × Value)} {v : Value} {A' : St} (hS : Sim B₀ w₀ A.ro μ A.get w) (h : aBuildSlice P t len parts A = some (v, A'))
    (hf : Free μ A.next A'.next) (hp : PR μ parts.toList parts'.toList) : Good P B₀ w₀ μ A A' (Instr.buildSlice t len parts') w v := by
  unfold aBuildSlice at h
  cases hu : P.underlying t with
  | none => rw [hu] at h; simp [fail_eq] at h
  | some d =>
    rw [hu] at h
    cases d <;> try (simp [fail_eq] at h; done)
    rename_i elem
    simp only [bind_eq, opt_eq] at h
    obtain ⟨size, B1, ⟨h1, rfl⟩, z, B2, ⟨h2, rfl⟩, h3⟩ := h
    split at h3
    · simp [fail_eq] at h3
    · rename_i hsz
      simp only [bind_eq, opt_eq, ret_eq, Prod.mk.injEq] at h3
      obtain ⟨cells, B3, ⟨h4, rfl⟩, id, B4, h5, rfl, rfl⟩ := h3
      obtain ⟨_, _, _, hg⟩ := tzero_info h2
      obtain ⟨r', h6, h7⟩ := aFill_rel hp (zeros_refl hg (len * size)) h4
      obtain ⟨ho, hl, _, rfl, rfl⟩ := aRow_eq h5
      have hlen : cells.size = r'.size := by simpa using h7.length
      have hfree := hf A.next (Nat.le_refl _) (by simp)
      refine ⟨_, _, .slice (some ⟨w.heap.size, 0, none⟩) len len, ?_, Mu.add_ext hfree, hS.row (e' := elem) (c' := r') hl hfree (by omega) ?_ 0 0 (by omega), ?_⟩
      · simp only [Instr.buildSlice, Sem.run_bind, run_underlying hu, Result.andThen_ok, run_sizeOf h1, if_neg hsz]
        by_cases h0 : len * size = 0
        · have hz : zeros z (len * size) = (Array.range (len * size)).map ((#[] : Array Value)[· % (#[] : Array Value).size]!) := by rw [h0]; simp [zeros]
          rw [hz] at h6
          simp [h0] at h6 ⊢
          simp [h6, newRow]
        · simp only [if_neg h0, Sem.run_bind, run_zeroValue h2, Result.andThen_ok, Sem.run_pure]
          have h6' : Instr.fill (fun i => some (i * size, size)) ((Array.range (len * size)).map (z.cells[· % z.cells.size]!)) parts'.toList = some r' := h6
          simp only [h6']
          simp [newRow]
      · rw [List.take_of_length_le (by simp; omega)]; exact h7
      · have := VRel.slice (off := 0) (len := len) (cap := len) (Mu.add_self μ A.next (w.heap.size, 0, r'.size))
        simpa using this

theorem wrap_i64 {n : Int} (h0 : 0 ≤ n) (h1 : n ≤ 1048576) : IntKind.i64.wrap n = n := by
  unfold IntKind.wrap
  simp [IntKind.bits, IntKind.signed]
  omega

theorem aMakeSlice_good {t : TypeId} {len cap len' cap' : Value} {v : Value} {A' : St} (hS : Sim B₀ w₀ A.ro μ A.get w) (h : aMakeSlice P t len cap A = some (v, A'))
    (hf : Free μ A.next A'.next) (hlen : VRel μ len len') (hcap : VRel μ cap cap') : Good P B₀ w₀ μ A A' (Instr.makeSlice t len' cap') w v := by
  unfold aMakeSlice at h
  cases hu : P.underlying t with
  | none => rw [hu] at h; simp [fail_eq] at h
  | some d =>
    rw [hu] at h
    cases d <;> try (simp [fail_eq] at h; done)
    rename_i elem
    cases len <;> try (simp [fail_eq] at h; done)
    rename_i k l
    cases cap <;> try (simp [fail_eq] at h; done)
    rename_i k2 c
    have e1 := hlen.gr rfl
    have e2 := hcap.gr rfl
    subst e1
    subst e2
    simp only [bind_eq, opt_eq] at h
    obtain ⟨i, B1, ⟨h1, rfl⟩, z, B2, ⟨h2, rfl⟩, h3⟩ := h
    split at h3
    · rename_i hc
      obtain ⟨c1, c2, c3, c4⟩ := hc
      simp only [bind_eq, ret_eq, Prod.mk.injEq] at h3
      obtain ⟨id, B3, h4, rfl, rfl⟩ := h3
      obtain ⟨_, _, _, hg⟩ := tzero_info h2
      obtain ⟨ho, hl, _, rfl, rfl⟩ := aRow_eq h4
      have hfree := hf A.next (Nat.le_refl _) (by simp)
      have w1 := wrap_i64 (n := l) (by omega) (by omega)
      have w2 := wrap_i64 (n := c) (by omega) (by omega)
      have hs : tsize P elem = some i.size := by simp [tsize, h1]
      have hb : ∀ n : Int, 0 ≤ n → n ≤ 1048576 → ¬ (281474976710656 < (i.bytes : Int) * n) := by
        intro n a b
        have : (i.bytes : Int) * n ≤ (i.bytes : Int) * 1048576 := Int.mul_le_mul_of_nonneg_left b (by omega)
        omega
      have hbl := hb l (by omega) (by omega)
      have hbc := hb c (by omega) (by omega)
      refine ⟨_, _, .slice (some ⟨w.heap.size, 0, none⟩) l.toNat c.toNat, ?_, Mu.add_ext hfree, hS.row (e' := elem) (c' := zeros z (c.toNat * i.size)) hl hfree (Nat.le_refl _) ?_ 0 0 (by omega), ?_⟩
      · have g1 : ¬ c < 0 := by omega
        have g2 : ¬ l < 0 := by omega
        have g3 : ¬ l > c := by omega
        simp only [Instr.makeSlice, Sem.run_bind, run_underlying hu, Result.andThen_ok, asInt, asIntOf, Sem.run_pure, run_typeInfo h1, w1, w2]
        simp only [g1, g2, g3, decide_false, Bool.false_or, Bool.or_false]
        have hd : decide ((i.bytes : Int) * c > 2 ^ 48) = false := decide_eq_false (by simpa using hbc)
        simp only [hd, Bool.false_eq_true, if_false, Sem.run_pure, Result.andThen_ok, run_askRoom, run_sizeOf hs]
        by_cases h0 : c.toNat * i.size = 0
        · have hr : ∀ f : Nat → Value, Array.map f (Array.range 0) = #[] := fun f => by simp
          simp only [run_sizeOf hs, Result.andThen_ok, h0, zeros, newRow, hr, if_true, Sem.run_bind, Sem.run_pure, run_newObj, run_askRoom]
        · simp [run_sizeOf hs, h0, run_zeroValue h2, zeros, newRow]
      · rw [List.take_of_length_le (by simp)]; exact zeros_refl hg _
      · have := VRel.slice (off := 0) (len := l.toNat) (cap := c.toNat) (Mu.add_self μ A.next (w.heap.size, 0, (zeros z (c.toNat * i.size)).size))
        simpa using this
    · simp [fail_eq] at h3

/-! ### Slicing -/
inductive OR (μ : Mu) : Option Value → Option Value → Prop
  | none : OR μ none none
  | some {x y : Value} (h : VRel μ x y) : OR μ (some x) (some y)

theorem OR.of_map {ρ ρ' : Operand → Value} (h : ∀ x, VRel μ (ρ x) (ρ' x)) : ∀ o : Option Operand, OR μ (o.map ρ) (o.map ρ')
  | .none => .none
  | .some x => .some (h x)

theorem boundOf_eq {v v' : Value} {top n : Nat} (hv : VRel μ v v') (h : boundOf v top = some n) (code : BoundsCode) (w : World) : n ≤ top ∧ (Instr.sliceBound v' top code).run P w = .ok n w := by
  unfold boundOf at h
  split at h
  · rename_i k m
    split at h
    · rename_i hc
      have := hv.gr rfl
      subst this
      simp only [Option.some.injEq] at h
      subst h
      refine ⟨by omega, ?_⟩
      simp [Instr.sliceBound, asIntOf, hc.1, hc.2]
    · cases h
  · cases h

theorem boundOf_more {v : Value} {top n top' : Nat} (h : boundOf v top = some n) (ht : top ≤ top') : boundOf v top' = some n := by
  unfold boundOf at h ⊢
  split at h
  · split at h
    · rename_i hc
      rw [if_pos ⟨hc.1, by omega⟩]
      exact h
    · cases h
  · cases h

theorem run_sliceBounds {isSlice : Bool} {len cap m h l : Nat} {low low' high high' max max' : Option Value} (hlo : OR μ low low') (hhi : OR μ high high') (hmx : OR μ max max')
    (h0 : (max.isSome && high.isNone) = false) (h1 : bound max cap cap = some m) (h2 : bound high m len = some h) (h3 : bound low h 0 = some l) (w : World) :
    (Instr.sliceBounds isSlice len cap low' high' max').run P w = .ok (l, h, m) w := by
  have kl : ∀ y, low' = some y → ∀ code w, (Instr.sliceBound y h code).run P w = .ok l w := by
    intro y hy code w
    cases hlo with
    | none => cases hy
    | some hv => cases hy; exact (boundOf_eq hv h3 code w).2
  have kl0 : low' = none → l = 0 := by
    intro hy
    cases hlo with
    | none => simp only [bound, Option.some.injEq] at h3; exact h3.symm
    | some hv => cases hy
  have kh : ∀ y, high' = some y → ∀ code w, (Instr.sliceBound y m code).run P w = .ok h w := by
    intro y hy code w
    cases hhi with
    | none => cases hy
    | some hv => cases hy; exact (boundOf_eq hv h2 code w).2
  have kh0 : high' = none → h = len := by
    intro hy
    cases hhi with
    | none => simp only [bound, Option.some.injEq] at h2; exact h2.symm
    | some hv => cases hy
  have km : ∀ y, max' = some y → ∀ code w, (Instr.sliceBound y cap code).run P w = .ok m w := by
    intro y hy code w
    cases hmx with
    | none => cases hy
    | some hv => cases hy; exact (boundOf_eq hv h1 code w).2
  have km0 : max' = none → m = cap := by
    intro hy
    cases hmx with
    | none => simp only [bound, Option.some.injEq] at h1; exact h1.symm
    | some hv => cases hy
  have h0' : (max'.isSome && high'.isNone) = false := by cases hmx <;> cases hhi <;> first | exact h0 | rfl
  clear hlo hhi hmx h0 h1 h2 h3
  cases max' with
  | none =>
    cases high' with
    | none =>
      cases low' with
      | none => simp [Instr.sliceBounds, kl0 rfl, kh0 rfl, km0 rfl]
      | some y => simp only [kh0 rfl] at kl; simp [Instr.sliceBounds, kh0 rfl, km0 rfl, kl y rfl]
    | some z =>
      simp only [km0 rfl] at kh
      cases low' with
      | none => simp [Instr.sliceBounds, kl0 rfl, km0 rfl, kh z rfl]
      | some y => simp [Instr.sliceBounds, kh z rfl, km0 rfl, kl y rfl]
  | some u =>
    cases high' with
    | none => simp at h0'
    | some z =>
      cases low' with
      | none => simp [Instr.sliceBounds, kl0 rfl, km u rfl, kh z rfl]
      | some y => simp [Instr.sliceBounds, kh z rfl, km u rfl, kl y rfl]

theorem run_sliceAt {t elem : TypeId} (hu : P.underlying t = some (.slice elem)) {size len cap m h l : Nat} (hs : tsize P elem = some size) {a : Option Addr} {low' high' max' : Option Value} {w : World}
    (hb : (Instr.sliceBounds true len cap low' high' max').run P w = .ok (l, h, m) w) :
    (Instr.sliceAt t (.slice a len cap) low' high' max').run P w = .ok (.slice (if m = l then a else a.map (·.add (l * size))) (h - l) (m - l)) w := by
  simp only [Instr.sliceAt, Sem.run_bind, run_underlying hu, Result.andThen_ok, Instr.slice, hb, run_sizeOf hs, Sem.run_pure]

theorem bound_le {v : Option Value} {top other n : Nat} (h : bound v top other = some n) (ho : other ≤ top) : n ≤ top := by
  unfold bound at h
  split at h
  · unfold boundOf at h
    split at h
    · split at h
      · rename_i hc; simp only [Option.some.injEq] at h; omega
      · cases h
    · cases h
  · simp only [Option.some.injEq] at h; omega

theorem bound_more {v : Option Value} {top n top' other : Nat} (h : bound v top other = some n) (ht : top ≤ top') : bound v top' other = some n := by
  unfold bound at h ⊢
  cases v with
  | none => exact h
  | some v => exact boundOf_more h ht

theorem aSlice_good {t : TypeId} {x x' v : Value} {low low' high high' max max' : Option Value} (h : aSlice P t x low high max = some v) (hx : VRel μ x x')
    (hlo : OR μ low low') (hhi : OR μ high high') (hmx : OR μ max max') (w : World) : ∃ v', (Instr.sliceAt t x' low' high' max').run P w = .ok v' w ∧ VRel μ v v' := by
  unfold aSlice at h
  cases hu : P.underlying t with
  | none => rw [hu] at h; cases h
  | some d =>
    rw [hu] at h
    cases d <;> try (simp at h; done)
    rename_i elem
    simp only at h
    cases hs : tsize P elem with
    | none => rw [hs] at h; cases h
    | some size =>
      rw [hs] at h
      simp only at h
      split at h
      · -- exact
        rename_i id off len cap
        split at h
        · cases h
        · rename_i h0
          cases hm : bound max cap cap with
          | none => rw [hm] at h; cases h
          | some m =>
            rw [hm] at h
            simp only at h
            cases hh : bound high m len with
            | none => rw [hh] at h; cases h
            | some hi =>
              rw [hh] at h
              simp only at h
              cases hl : bound low hi 0 with
              | none => rw [hl] at h; cases h
              | some l =>
                rw [hl] at h
                simp only [Option.some.injEq] at h
                subst h
                cases hx with
                | ground n hg => cases n <;> simp [ground] at hg
                | @slice id off b β S len cap hmu =>
                  refine ⟨_, run_sliceAt hu hs (run_sliceBounds hlo hhi hmx (by cases hb : (max.isSome && high.isNone) with | false => rfl | true => exact absurd hb h0) hm hh hl w), ?_⟩
                  by_cases e : m = l
                  · simp only [if_pos e]; exact .slice hmu
                  · simp only [if_neg e, Option.map_some, Addr.add_eq, Nat.add_assoc]; exact .slice hmu
      · -- soft
        rename_i id off sz len c
        split at h
        · cases h
        · rename_i hsz
          have hsz : sz = size := by omega
          subst hsz
          cases hx with
          | ground n hg => cases n <;> simp [ground] at hg
          | @soft id off b β S len c sz cap' a' hmu hle ha hss =>
            split at h
            · rename_i mv
              split at h
              · cases h
              · rename_i h0
                simp only [Bool.or_eq_true, not_or, beq_iff_eq] at h0
                have hpos : 0 < cap' := by simp at h0; omega
                have hae := ha hpos
                subst hae
                cases hm : boundOf mv len with
                | none => rw [hm] at h; cases h
                | some m =>
                  rw [hm] at h
                  simp only at h
                  have hml : m ≤ len := bound_le (v := some mv) (other := 0) hm (by omega)
                  cases hh : bound high m 0 with
                  | none => rw [hh] at h; cases h
                  | some hi =>
                    rw [hh] at h
                    simp only at h
                    cases hl : bound low hi 0 with
                    | none => rw [hl] at h; cases h
                    | some l =>
                      rw [hl] at h
                      simp only [Option.some.injEq] at h
                      subst h
                      have hh' : bound high m len = some hi := by
                        cases high with
                        | none => simp at h0
                        | some hv => exact hh
                      refine ⟨_, run_sliceAt hu hs (run_sliceBounds (len := len) (cap := cap') hlo hhi hmx (by cases high with | none => simp at h0 | some _ => rfl) (bound_more (v := some mv) (other := cap') hm hle) hh' hl w), ?_⟩
                      by_cases e : m = l
                      · simp only [if_pos e]; exact .slice hmu
                      · simp only [if_neg e, Option.map_some, Addr.add_eq, Nat.add_assoc]; exact .slice hmu
            · cases hmx
              cases hh : bound high len len with
              | none => rw [hh] at h; cases h
              | some hi =>
                rw [hh] at h
                simp only at h
                cases hl : bound low hi 0 with
                | none => rw [hl] at h; cases h
                | some l =>
                  rw [hl] at h
                  simp only [Option.some.injEq] at h
                  subst h
                  have h1 : hi ≤ len := bound_le hh (Nat.le_refl _)
                  have h2 : l ≤ hi := bound_le hl (Nat.zero_le _)
                  refine ⟨_, run_sliceAt hu hs (run_sliceBounds (len := len) (cap := cap') (m := cap') hlo hhi .none (by simp) rfl (bound_more hh hle) hl w), ?_⟩
                  have hmul : l * sz + (cap' - l) * sz = cap' * sz := by rw [← Nat.add_mul]; congr 1; omega
                  by_cases e : cap' = l
                  · simp only [if_pos e]
                    exact .soft hmu (by omega) (fun hp => by omega) (by omega)
                  · simp only [if_neg e, Option.map_some]
                    refine .soft hmu (by omega) (fun hp => ?_) (by omega)
                    rw [ha (by omega), Addr.add_eq, Nat.add_assoc]
      · rename_i len cap
        split at h
        · rename_i hc
          obtain ⟨h1, h2, h3, h4, h5, h6⟩ := hc
          simp only [Option.some.injEq] at h
          subst h
          subst h1
          subst h2
          have e := hx.same 1 rfl
          subst e
          have zb : ∀ {o o' : Option Value} {top : Nat}, OR μ o o' → zeroOr o = true → bound o top 0 = some 0 := by
            intro o o' top _ hz
            cases o with
            | none => rfl
            | some v => cases v <;> simp [zeroOr] at hz; subst hz; simp [bound, boundOf]
          refine ⟨.slice none 0 0, ?_, hx⟩
          rw [run_sliceAt hu hs (run_sliceBounds (len := 0) (cap := 0) (m := 0) (h := 0) (l := 0) hlo hhi hmx (by cases hb : (max.isSome && high.isNone) with | false => rfl | true => rw [hb] at h6; cases h6) (zb hmx h5) (zb hhi h4) (zb hlo h3) w)]
          simp
        · cases h
      · cases h

end
end Go.Det
