/-
  liverykeep.CopyStmt, build.New, liveryref24.New: what they make of a statement.
-/
import Derived.Test.YtpclafidblbicaaGreatDoorGd
import Derived.Test.YtpclafidblbicaaGreatDoorRw
import Derived.ArgAppend
import Derived.Laws.OwnMore
import Derived.Laws.Rows
import Derived.Laws.CopyOwn
namespace Go.Proofs.YtpclafidblbicaaGreatDoor
open Go Go.Det
open Go.RowKit (Below)

theorem wpList_copy {P : Program} (w : World) {ops : Array Oper} {rest : List Oper} {o : Oper} {a : Act} {Q : Exit → Act → World → Prop}
    (hg : o.guard = none) (s x : Operand) (t : TypeId) (hop : o.op = Op.call { callee := Callee.builtin Builtin.append, args := #[s, x], argTypes := #[t, t] })
    (e : TypeId) (i : TypeInfo) (z : Value) (size bytes : Nat) (h1 : P.underlying t = some (.slice e)) (h2 : P.info? e = some i) (h3 : i.zero = some z) (h4 : i.size = size) (h5 : i.bytes = bytes) (h6 : z.cells.size = size) (h7 : 0 < size)
    (g : Nat) (hs : a.eval s = .slice (some ⟨g, 0, none⟩) 0 0) (xa : Option Addr) (m c : Nat) (hx : a.eval x = .slice xa m c) (hx0 : xa = none → m = 0 ∧ c = 0) (hc : ∀ ad, xa = some ad → CellsOk w ad (m * size))
    (b1 : m ≤ maxLen) (b2 : m * bytes ≤ 140737488355328)
    (hK : ∀ va vc w', w.grownBy w' none → wpList P ops Q rest (a.put o.dst (.slice va m vc)) w') : wpList P ops Q (o :: rest) a w := by
  refine wpList_plain hg fun K hK' => ?_
  have gr : w.grownBy w none := ⟨rfl, rfl, rfl, Nat.le_refl _, fun _ _ _ => rfl⟩
  cases xa with
  | none =>
    obtain ⟨rfl, rfl⟩ := hx0 rfl
    have hrun : (Builtin.append_ #[t, t] o.type #[.slice (some ⟨g, 0, none⟩) 0 0, .slice none 0 0]).run P w = .ok (.slice (some ⟨g, 0, none⟩) 0 0) w := by
      simp [Builtin.append_, run_underlying h1, sizeOf, typeInfo, h2, Builtin.lenOf, Builtin.firstCells, storeCells]
    unfold Oper.wp
    simp [execOp, hop, resolve, invoke, builtin, hs, hx, hrun, Result.andThen]
    exact hK' _ _ (hK _ _ _ gr)
  | some ad =>
    let news : List Value := (List.range (m * size)).map fun j => (w.cell? (ad.add j)).getD undef
    have hl : news.length = m * size := by simp [news]
    have hn : ∀ j u, news[j]? = some u → w.cell? (ad.add j) = some u := by
      intro j u hj
      have hlt : j < m * size := by
        have := List.getElem?_eq_some_iff.1 hj
        obtain ⟨h, _⟩ := this
        rwa [hl] at h
      obtain ⟨u', hu'⟩ := hc ad rfl j hlt
      simp only [news, List.getElem?_map, List.getElem?_range hlt, Option.map_some, hu', Option.getD_some, Option.some.injEq] at hj
      rw [hu', hj]
    by_cases h0 : m = 0
    · subst h0
      have hnil : news = [] := List.eq_nil_of_length_eq_zero (by rw [hl]; omega)
      have hrun := run_append_room_cells (P := P) w t o.type e i h1 h2 g 0 0 0 ad 0 c [] (by simp) (by simp) (by simp) (Nat.le_refl _) (by simp) (by simp)
      have hst : w.setCells g (0 + 0 * i.size) [] = w := rfl
      rw [hst] at hrun
      unfold Oper.wp
      simp [execOp, hop, resolve, invoke, builtin, hs, hx, hrun, Result.andThen]
      exact hK' _ _ (hK _ _ _ gr)
    · obtain ⟨v', w', hrun, r1, r2⟩ := run_append_arg_grows (P := P) w t o.type e i z size bytes h1 h2 h3 h4 h5 h6 h7 ⟨g, 0, none⟩ 0 0 [] (by simp) (by simp) ad m c news hl hn (by omega) (by omega) (by rw [Nat.zero_add]; exact b2)
      unfold Oper.wp
      simp [execOp, hop, resolve, invoke, builtin, hs, hx, hrun, Result.andThen]
      rcases r1.2 with ⟨_, h⟩ | ⟨g', cap', cur', rfl, _⟩
      · omega
      · have := hK (some ⟨g', 0, none⟩) cap' w' r2
        rw [Nat.zero_add]
        exact hK' _ _ this

theorem set_block {w : World} {B o : Nat} {c : Array Value} {e : TypeId} {fz : Nat × Nat} (h : w.heap[B]? = some (.cells c e fz)) (v : Value) : (w.setCell ⟨B, o, none⟩ v).heap[B]? = some (.cells (c.setIfInBounds o v) e fz) := by
  simp [World.setCell, Array.getElem?_modify, h]

theorem set_other {w : World} {B B' o : Nat} (h : B' ≠ B) (v : Value) : (w.setCell ⟨B, o, none⟩ v).heap[B']? = w.heap[B']? := by
  simp [World.setCell, Array.getElem?_modify, Ne.symm h]

theorem thawed {w : World} {B o : Nat} {c : Array Value} {e : TypeId} (h : w.heap[B]? = some (.cells c e (0, 0))) : w.frozen? ⟨B, o, none⟩ = false := by
  simp [World.frozen?, h]

theorem two_blocks {w w3 : World} {o0 o1 o2 : Obj} (hg : (((w.alloc o0).alloc o1).alloc o2).grownBy w3 none) : w3.heap[w.heap.size]? = some o0 ∧ w3.heap[w.heap.size + 1]? = some o1 ∧ Below w.heap.size w w3 ∧ w.heap.size + 2 ≤ w3.heap.size := by
  have s1 : (w.alloc o0).heap.size = w.heap.size + 1 := by simp
  have s2 : ((w.alloc o0).alloc o1).heap.size = w.heap.size + 2 := by simp
  have s3 : (((w.alloc o0).alloc o1).alloc o2).heap.size = w.heap.size + 3 := by simp
  have n1 : (w.alloc o0).heap[w.heap.size]? = some o0 := World.alloc_heap_new w o0
  have n2 : ((w.alloc o0).alloc o1).heap[w.heap.size + 1]? = some o1 := by rw [← s1]; exact World.alloc_heap_new (w.alloc o0) o1
  have k2 : ((w.alloc o0).alloc o1).heap[w.heap.size]? = some o0 := (Below.heap_alloc _ _ w.heap.size (by omega)).trans n1
  refine ⟨(hg.block w.heap.size (by omega) (by simp)).trans ((Below.heap_alloc _ _ w.heap.size (by omega)).trans k2), (hg.block (w.heap.size + 1) (by omega) (by simp)).trans ((Below.heap_alloc _ _ (w.heap.size + 1) (by omega)).trans n2), ?_, ?_⟩
  · exact ((((Below.refl w.heap.size w).alloc (Nat.le_refl _) _).alloc (by omega) _).alloc (by omega) _).grown hg (by omega) (fun k h => by cases h)
  · have := hg.size; omega

theorem box_cell {w : World} {B j : Nat} {c : Array Value} {e : TypeId} {v : Value} (h : w.heap[B]? = some (.cells c e (0, 0))) (hv : c[j]? = some v) : w.cell? ⟨B, j, none⟩ = some v := by
  simp [World.cell?, h, hv]

theorem third {w w4 : World} {B0 B1 : Nat} {o0 o1 o2 : Obj} (h0 : w.heap[B0]? = some o0) (h1 : w.heap[B1]? = some o1) (hg : (w.alloc o2).grownBy w4 none) : w4.heap[B0]? = some o0 ∧ w4.heap[B1]? = some o1 ∧ Below w.heap.size w w4 := by
  have l0 : B0 < w.heap.size := (Array.getElem?_eq_some_iff.1 h0).1
  have l1 : B1 < w.heap.size := (Array.getElem?_eq_some_iff.1 h1).1
  have s1 : (w.alloc o2).heap.size = w.heap.size + 1 := by simp
  refine ⟨(hg.block B0 (by omega) (by simp)).trans ((Below.heap_alloc _ _ B0 l0).trans h0), (hg.block B1 (by omega) (by simp)).trans ((Below.heap_alloc _ _ B1 l1).trans h1), ?_⟩
  exact ((Below.refl w.heap.size w).alloc (Nat.le_refl _) _).grown hg (by omega) (fun k h => by cases h)

theorem below_set {W w : World} {B : Nat} (h : Below B W w) {b o : Nat} (hb : B ≤ b) (v : Value) : Below B W (w.setCell ⟨b, o, none⟩ v) :=
  ⟨h.os, h.tape, h.output, by simp [World.setCell, h.size], fun k hk => (set_other (by omega) v).trans (h.block k hk)⟩

theorem info28 : (Tryz.prog.info? 28).map (·.size) = some 16 := by kernel_rfl
theorem all1 (cs : List Value) (h : cs.all (·.oneCell') = true) : (⟨cs⟩ : Array Value).all (·.oneCell') = true := by simpa using h
theorem info4 : (Tryz.prog.info? 24).map (fun i => (i.zero, i.size, i.bytes)) = some (some (.agg #[.int .i64 0, .int .i64 0, .float .f64 0, .string ⟨#[]⟩]), 4, 40) := by kernel_rfl
theorem info7 : (Tryz.prog.info? 111).map (fun i => (i.zero, i.size, i.bytes)) = some (some (.agg #[.string ⟨#[]⟩, .int .i64 0, .bool false, .int .i64 0, .int .i64 0, .float .f64 0, .string ⟨#[]⟩]), 7, 72) := by kernel_rfl

noncomputable def cpH0 : Code := match Tryz.f8.body with | some (.seq a _) => a | _ => .skip
noncomputable def cpH1 : Code := match Tryz.f8.body with | some (.seq _ (.seq a _)) => a | _ => .skip
noncomputable def cpH2 : Code := match Tryz.f8.body with | some (.seq _ (.seq _ (.seq a _))) => a | _ => .skip
noncomputable def cpRest : Code := match Tryz.f8.body with | some (.seq _ (.seq _ (.seq _ a))) => a | _ => .skip
theorem cp_body : Tryz.f8.body = some (.seq cpH0 (.seq cpH1 (.seq cpH2 cpRest))) := by kernel_rfl

set_option maxRecDepth 100000 in
set_option maxHeartbeats 2000000 in
theorem copy_walk (k : Int) (t n c st : ByteArray) (vk vm : Int) (vf : Nat) (vs : ByteArray) (wk wm : Int) (wf : Nat) (ws : ByteArray) (ra la : Option Addr) (rl rc ll lc : Nat) (f : Bool) (w : World)
    (hr0 : ra = none → rl = 0 ∧ rc = 0) (hrc : ∀ ad, ra = some ad → CellsOk w ad (rl * 4)) (hl0 : la = none → ll = 0 ∧ lc = 0) (hlc : ∀ ad, la = some ad → CellsOk w ad (ll * 7)) (hr : rl ≤ 50) (hl : ll ≤ 50) :
    Calls Tryz.prog 8 #[stmtV k t n c st vk vm vf vs wk wm wf ws (.slice ra rl rc) (.slice la ll lc) f] w fun e w' =>
      (∃ ra' rc' la' lc', e = .returned (stmtV k t n c st vk vm vf vs wk wm wf ws (.slice ra' rl rc') (.slice la' ll lc') f)) ∧ Below w.heap.size w w' := by
  obtain ⟨i4, hi4, q4⟩ := Option.map_eq_some_iff.1 info4
  obtain ⟨i7, hi7, q7⟩ := Option.map_eq_some_iff.1 info7
  simp only [Prod.mk.injEq] at q4 q7
  obtain ⟨z4, s4, b4⟩ := q4
  obtain ⟨z7, s7, b7⟩ := q7
  refine calls_of_wp Tryz.func8 cp_body ?_
  obtain ⟨REST, hREST⟩ : ∃ R, cpRest = R := ⟨_, rfl⟩
  rw [hREST]
  unfold cpH0 cpH1 cpH2
  simp only [stmtV, Tryz.f8, Tryz.ntmps8, List.size_toArray, List.length_cons, List.length_nil, Nat.reduceAdd, Nat.reduceSub, Array.replicate_succ, Array.replicate_zero, List.push_toArray, List.append_toArray, List.nil_append, List.cons_append]
  have hml : (50 : Nat) ≤ maxLen := by decide
  have hb0 : Below w.heap.size w w := Below.refl _ w
  go_wp2_with (first
    | (at_builtin; refine wpList_copy _ rfl _ _ 25 rfl 24 i4 _ 4 40 Tryz.underlying25 hi4 z4 s4 b4 rfl (by decide) _ rfl ra rl rc rfl hr0 (fun ad h => (hrc ad h).later (((hb0.alloc (by simp <;> omega) _).alloc (by simp <;> omega) _).alloc (by simp <;> omega) _)) (by omega) (by omega) ?_
       intro va vc w3 hg3
       obtain ⟨p3, q3, hb3, l3⟩ := two_blocks hg3
       have z3 : w3.frozen? ⟨w.heap.size, 13, none⟩ = false := thawed p3
       have c3_13 : w3.cell? ⟨w.heap.size, 13, none⟩ = some (.slice ra rl rc) := box_cell p3 rfl
       have c3_14 : w3.cell? ⟨w.heap.size, 14, none⟩ = some (.slice la ll lc) := box_cell p3 rfl
       have p5 : ((w3.setCell ⟨w.heap.size, 13, none⟩ (.slice va rl vc)).alloc (.cells #[] 111)).cell? ⟨w.heap.size, 14, none⟩ = some (.slice la ll lc) := box_cell ((Below.heap_alloc _ _ _ (by simp [World.setCell]; omega)).trans (set_block p3 _)) rfl)
    | (at_builtin; refine wpList_copy _ rfl _ _ 26 rfl 111 i7 _ 7 72 Tryz.underlying26 hi7 z7 s7 b7 rfl (by decide) _ rfl la ll lc rfl hl0 (fun ad h => (hlc ad h).later ((below_set hb3 (Nat.le_refl _) _).alloc (by simp [World.setCell]; omega) _)) (by omega) (by omega) ?_
       intro vb vd w4 hg4
       obtain ⟨p4, q4, hb4⟩ := third (set_block p3 (.slice va rl vc)) ((set_other (by omega) _).trans q3) hg4
       have hb5 : Below w.heap.size w w4 := (below_set hb3 (Nat.le_refl _) (.slice va rl vc)).trans (hb4.mono (by simp [World.setCell]; omega))
       have z4' : w4.frozen? ⟨w.heap.size, 14, none⟩ = false := thawed p4
       have c4 : w4.cell? ⟨w.heap.size, 14, none⟩ = some (.slice la ll lc) := box_cell p4 rfl))
  rw [← hREST]
  obtain ⟨w5, hw5⟩ : ∃ x, w4.setCell ⟨w.heap.size, 14, none⟩ (.slice vb ll vd) = x := ⟨_, rfl⟩
  have p6 : w5.heap[w.heap.size]? = some (.cells #[.int .i64 k, .string t, .string n, .string c, .string st, .int .i64 vk, .int .i64 vm, .float .f64 vf, .string vs, .int .i64 wk, .int .i64 wm, .float .f64 wf, .string ws, .slice va rl vc, .slice vb ll vd, .bool f] 28 (0, 0)) := by rw [← hw5]; exact set_block p4 _
  have q6 : w5.heap[w.heap.size + 1]? = some (.cells #[.int .i64 0, .string ⟨#[]⟩, .string ⟨#[]⟩, .string ⟨#[]⟩, .string ⟨#[]⟩, .int .i64 0, .int .i64 0, .float .f64 0, .string ⟨#[]⟩, .int .i64 0, .int .i64 0, .float .f64 0, .string ⟨#[]⟩, .slice none 0 0, .slice none 0 0, .bool false] 28 (0, 0)) := by rw [← hw5]; exact (set_other (by omega) _).trans q4
  have hb6 : Below w.heap.size w w5 := by rw [← hw5]; exact below_set hb5 (Nat.le_refl _) _
  rw [hw5]
  clear hw5 p4 q4 hb5 z4' c4 p3 q3 hb3 z3 c3_13 c3_14 p5
  unfold cpRest
  simp only [Tryz.f8]
  go_wp2_with (first
    | (refine wpList_load_row rfl 28 _ rfl w.heap.size rfl 28 _ (0, 0) _ p6 Tryz.underlying28 rfl info28 ?_)
    | (refine wpList_store_row rfl 28 _ _ rfl (w.heap.size + 1) _ rfl rfl 28 _ q6 info28 rfl (all1 _ rfl) ?_))
  refine bodyPost_ret (results_cell_row rfl _ _ (w.heap.size + 1) 28 _ (0, 0) _ rfl (setRow_heap _ _ _ _ _ _ q6) Tryz.underlying28 rfl info28) rfl ?_
  exact ⟨⟨va, vc, vb, vd, rfl⟩, below_setRow hb6 (by omega) _⟩

end Go.Proofs.YtpclafidblbicaaGreatDoor
