/- The evaluator over all orders: the ways of an operation, of a region, of code, of a call. -/
import Derived.Test.YtpclafidblbicaaGreatDoorDetU
namespace Go.Det
open Go.RowKit (Below)

/-! ### The ways of an operation -/
inductive Alt where
  | plain
  | at (i : Nat)
  | row (k : Nat) (l : List Value)
  | val (v : Value)

/-- a function that hands back a new row, of which several are possible -/
structure Many where
  h : Array Value → M (List Alt)
  loc : ∀ args, Loc (h args)
  same : ∀ args A l B, h args A = some (l, B) → B.get = A.get ∧ B.next = A.next ∧ B.ro = A.ro

/-- how many entries are left -/
def leftN (it : Value) : M Nat :=
  match it with
  | .pointer (some ⟨r, 0, none⟩) => do
    match ← rd r with
    | .mapIter (some m) _ seen _ => do
      let (es, _) ← rdMap m
      M.ret (es.toList.filter fun e => !seen.contains e.born).length
    | _ => M.ret 0
  | _ => M.ret 0

/-- one of them -/
def aNextAt (it : Value) (i : Nat) : M Value :=
  match it with
  | .pointer (some ⟨r, 0, none⟩) => do
    match ← rd r with
    | .mapIter (some m) since seen last => do
      let (es, clock) ← rdMap m
      match es.toList.all (fun e => Nat.blt e.born since) && Nat.ble since last with
      | true => do
        let e ← M.opt ((es.toList.filter fun e => !seen.contains e.born)[i]? : Option MapEntry)
        wr r (some (.mapIter (some m) since (seen.push e.born) clock))
        M.ret (.tuple #[.bool true, e.key, e.val])
      | false => M.fail
    | _ => M.fail
  | _ => M.fail

/-- a new row, k cells an element -/
def aRowK (k : Nat) (l : List Value) : M Value :=
  match l with
  | [] => M.ret (.slice none 0 0)
  | x :: t => do
    let id ← aRow 0 ⟨x :: t⟩
    M.ret (.slice (some ⟨id, 0, some k⟩) ((t.length + 1) / k) ((t.length + 1) / k))

def hasBody (P : Program) (g : FuncId) : Bool :=
  match P.funcs[g]? with
  | some fn => fn.body.isSome
  | none => false

/-- an int of which nothing more is known -/
def unkI : Value → Bool
  | .chan (some r) => Nat.beq r 2 || (Nat.ble 16 r && Nat.beq (r % 8) 0)
  | _ => false

/-- one symbol, twice -/
def oneSym (x y : Value) : Bool :=
  match x, y with
  | .chan (some r), .chan (some s) => Nat.ble 16 r && Nat.beq r s
  | _, _ => false

def isI : Value → Bool
  | .int .i64 _ => true
  | v => unkI v

/-- a text of which nothing more is known -/
def unkT : Value → Bool
  | .chan (some r) => Nat.beq r 3 || (Nat.ble 16 r && Nat.beq (r % 8) 4)
  | _ => false

def isT : Value → Bool
  | .string _ => true
  | v => unkT v

def isEq : BinOp → Bool
  | .eql | .neq => true
  | _ => false

def isCmp : BinOp → Bool
  | .eql | .neq | .lss | .leq | .gtr | .geq => true
  | _ => false

/-- a comparison that may come out both ways -/
def anyCmp (op : BinOp) (x y : Value) : Bool :=
  match isCmp op && isI x && isI y && (unkI x || unkI y) && !oneSym x y with
  | true => true
  | false => isEq op && isT x && isT y && (unkT x || unkT y) && !oneSym x y

/-- a string of which nothing more is known -/
def unkS : Value → Bool
  | .chan (some r) => Nat.beq r 3
  | _ => false

/-- len of such a string -/
def lenUnk (P : Program) (c : Call) (T : Tr Value) : Bool :=
  match c.argTypes.toList, c.args.toList with
  | [t], [x] =>
    match P.underlying t with
    | some .string => unkS (look T x)
    | _ => false
  | _, _ => false

/-- of which kind the ways of an operation are -/
inductive AKind where
  | plain
  | next (it : Value)
  | cmp
  | len
  | many (s : Many) (args : Array Value)
  | enter (g : FuncId) (args : Array Value)

def callKind (P : Program) (Y : FuncId → Option Many) (Z : FuncId → Bool) (c : Call) (T : Tr Value) : AKind :=
  match c.callee with
  | .value (.func g) =>
    match hasBody P g with
    | true =>
      match Z g with
      | true => .enter g (c.args.map (look T))
      | false =>
        match Y g with
        | some s => .many s (c.args.map (look T))
        | none => .plain
    | false => .plain
  | .builtin .len =>
    match lenUnk P c T with
    | true => .len
    | false => .plain
  | _ => .plain

def opKind (P : Program) (Y : FuncId → Option Many) (Z : FuncId → Bool) (o : Oper) (T : Tr Value) : AKind :=
  match o.op with
  | .next it isString =>
    match isString with
    | true => .plain
    | false => .next (look T it)
  | .binOp op _ x y _ =>
    match anyCmp op (look T x) (look T y) with
    | true => .cmp
    | false => .plain
  | .call c => callKind P Y Z c T
  | _ => .plain

def altKind (P : Program) (Y : FuncId → Option Many) (Z : FuncId → Bool) (ops : Array Oper) (o : Oper) (T : Tr Value) : AKind :=
  match want ops T o with
  | some b =>
    match b with
    | true => opKind P Y Z o T
    | false => .plain
  | none => .plain

def nextAlts (it : Value) : M (List Alt) := do
  let c ← leftN it
  match Nat.ble c 1 with
  | true => M.ret [.plain]
  | false => M.ret ((List.range c).map Alt.at)

def altsOf (k : AKind) : M (List Alt) :=
  match k with
  | .plain => M.ret [.plain]
  | .next it => nextAlts it
  | .cmp => M.ret [.val (.bool true), .val (.bool false)]
  | .len => M.ret [.val (.chan (some 2))]
  | .many s args => s.h args
  | .enter _ _ => M.fail

def runAlt (P : Program) (X : Ext) (call : Func → FuncId → Array Value → M Value) (ops : Array Oper) (o : Oper) (T : Tr Value) (c : Alt) : M Value :=
  match c with
  | .plain => step P X call ops o T
  | .at i =>
    match o.op with
    | .next it _ => aNextAt (look T it) i
    | _ => M.fail
  | .row k l => aRowK k l
  | .val v => M.ret v

def stepsC (P : Program) (X : Ext) (Y : FuncId → Option Many) (Z : FuncId → Bool) (call : Func → FuncId → Array Value → M Value) (callC : FuncId → Array Value → (Value → M Value) → M Value) (ops : Array Oper) (n : Nat) :
    List Oper → Tr Value → (Tr Value → M Value) → M Value
  | [], T, K => K T
  | o :: rest, T, K =>
    match altKind P Y Z ops o T with
    | .enter g args => callC g args fun v => do
      let T ← M.opt (put n T o.dst v)
      stepsC P X Y Z call callC ops n rest T K
    | k => do
      let l ← altsOf k
      forkM (fun c => do
        let v ← runAlt P X call ops o T c
        let T ← M.opt (put n T o.dst v)
        stepsC P X Y Z call callC ops n rest T K) l

/-- so many of a region's operations, in every order -/
def anyS (P : Program) (X : Ext) (call : Func → FuncId → Array Value → M Value) (ops : Array Oper) (n : Nat) : Nat → Array Bool → Tr Value → (Array Bool → Tr Value → M Value) → M Value
  | 0, listed, T, K => K listed T
  | f + 1, listed, T, K =>
    match Region.ready .any ops listed with
    | [] => M.fail
    | i :: l => forkM (fun i => do
        let o ← M.opt ops[i]?
        let v ← step P X call ops o T
        let T ← M.opt (put n T o.dst v)
        anyS P X call ops n f (listed.setIfInBounds i true) T K) (i :: l)

def dstsOf (ops : Array Oper) : List Tmp := ops.toList.filterMap (·.dst)

/-- what the slots hold that a region sets -/
def packK (ops : Array Oper) (goal listed : Array Bool) (T : Tr Value) : M Value :=
  match sameL (fun a b : Bool => a == b) listed.toList goal.toList with
  | true => M.ret (.tuple ⟨(dstsOf ops).map (slot T)⟩)
  | false => M.fail

def putAll (n : Nat) : List Tmp → List Value → Tr Value → Option (Tr Value)
  | [], _, T => some T
  | d :: ds, v :: vs, T =>
    match put n T (some d) v with
    | some T => putAll n ds vs T
    | none => none
  | _ :: _, [], _ => none

def tupleOf : Value → List Value
  | .tuple a => a.toList
  | _ => []

/-- the first k of n -/
def firstK (k n : Nat) : Array Bool := ⟨(List.range n).map fun i => Nat.blt i k⟩

/-- a region in every order, part by part: behind a part it is all one -/
def anyPh (P : Program) (X : Ext) (call : Func → FuncId → Array Value → M Value) (ops : Array Oper) (n : Nat) : List Nat → Nat → Array Bool → Tr Value → (Tr Value → M Value) → M Value
  | [], _, listed, T, K =>
    match Region.ready .any ops listed with
    | [] => K T
    | _ :: _ => M.fail
  | f :: fs, k, listed, T, K => do
    let r ← meas (anyS P X call ops n f listed T (packK ops (firstK (k + f) ops.size)))
    let T ← M.opt (putAll n (dstsOf ops) (tupleOf r.1) T)
    anyPh P X call ops n fs (k + f) (firstK (k + f) ops.size) T K

/-- how a region of so many operations is parted -/
def phases (n : Nat) : List Nat :=
  match Nat.beq n 12 with
  | true => [7, 4, 1]
  | false => [n]

def isMapEntry (o : Oper) : Bool :=
  match o.op with
  | .mapEntry .. => true
  | _ => false

def evalRegC (P : Program) (X : Ext) (Y : FuncId → Option Many) (Z : FuncId → Bool) (call : Func → FuncId → Array Value → M Value) (callC : FuncId → Array Value → (Value → M Value) → M Value) (ops : Array Oper) (draw : Bool) (n : Nat) (T : Tr Value) (K : Tr Value → M Value) : M Value :=
  match draw with
  | false => stepsC P X Y Z call callC ops n ops.toList T K
  | true =>
    match ops.toList.any isMapEntry with
    | true => anyPh P X call ops n (phases ops.size) 0 (Array.replicate ops.size false) T K
    | false => do
      let T ← evalRegion P X call ops true n T
      K T

/-- a call, with what comes behind it -/
def enterC (P : Program) (E : Code → Nat → Tr Value → (Out → Tr Value → M Value) → M Value) (g : FuncId) (args : Array Value) (K : Value → M Value) : M Value :=
  match P.funcs[g]? with
  | some fn =>
    match fn.body with
    | some c =>
      if args.size ≤ fn.ntmps ∧ fn.ntmps < lim then
        E c fn.ntmps (ofArgs args.toList 0 .nil) fun out T =>
          match out with
          | .normal => do
            let v ← aResults P fn T
            K v
          | .ret => do
            let v ← aResults P fn T
            K v
          | _ => M.fail
      else M.fail
    | none => M.fail
  | none => M.fail

def evalC (P : Program) (X : Ext) (Y : FuncId → Option Many) (Z : FuncId → Bool) : Nat → Code → Nat → Tr Value → (Out → Tr Value → M Value) → M Value
  | 0, _, _, _, _ => M.fail
  | k + 1, c, n, T, K =>
    match c with
    | .skip => K .normal T
    | .label _ => K .normal T
    | .seq a b => evalC P X Y Z k a n T fun o T =>
      match o with
      | .normal => evalC P X Y Z k b n T K
      | o => K o T
    | .cond c x y =>
      match look T c with
      | .bool true => evalC P X Y Z k x n T K
      | .bool false => evalC P X Y Z k y n T K
      | _ => M.fail
    | .block id c => evalC P X Y Z k c n T fun o T =>
      match o with
      | .exit id' => if id' = id then K .normal T else K (.exit id') T
      | o => K o T
    | .loop c => evalC P X Y Z k c n T fun o T =>
      match o with
      | .normal => evalC P X Y Z k (.loop c) n T K
      | o => K o T
    | .goto l => K (.goto l) T
    | .exit id => K (.exit id) T
    | .ret => K .ret T
    | .region _ ops draw => evalRegC P X Y Z (enter P (evalCode P X k)) (enterC P (evalC P X Y Z k)) ops draw n T (K .normal)
    | _ => M.fail

/-! ### A call: what was new is let go, but for the row that is handed back -/
def clear : Nat → Nat → Tr Obj → Tr Obj
  | 0, _, t => t
  | n + 1, s, t => force (Nat.succ s) fun s' => clear n s' (t.set D s none)

def wipe (n0 gap : Nat) : M Unit := fun A =>
  force (n0 + gap) fun N =>
    match Nat.ble n0 A.next && Nat.ble A.next N && Nat.ble N lim && Nat.ble A.ro n0 with
    | true => force (Nat.lor A.W (Nat.shiftLeft (2 ^ gap - 1) n0)) fun W => some ((), { A with heap := clear gap n0 A.heap, next := N, W })
    | false => none

def settle (n0 gap : Nat) (v : Value) : M Value :=
  match gr v with
  | true => do
    wipe n0 gap
    M.ret v
  | false =>
    match v with
    | .slice (some ⟨id, 0, some k⟩) len _ =>
      match Nat.ble n0 id && Nat.blt id (n0 + gap) with
      | true => do
        match ← rd id with
        | .cells c _ _ =>
          match c.toList.all gr with
          | true => do
            wipe n0 gap
            let id ← al (.cells c 0 (0, 0))
            M.ret (.slice (some ⟨id, 0, some k⟩) len len)
          | false => M.fail
        | _ => M.fail
      | false => M.fail
    | _ => M.fail

def finish (P : Program) (fn : Func) (n0 gap : Nat) (out : Out) (T : Tr Value) : M Value :=
  match out with
  | .normal => do
    let v ← aResults P fn T
    settle n0 gap v
  | .ret => do
    let v ← aResults P fn T
    settle n0 gap v
  | _ => M.fail

def nxt : M Nat := fun A => some (A.next, A)

def forkCall (P : Program) (X : Ext) (Y : FuncId → Option Many) (Z : FuncId → Bool) (k gap : Nat) (g : FuncId) (args : Array Value) : M Value := do
  let fn ← M.opt P.funcs[g]?
  match fn.body with
  | some c =>
    if args.size ≤ fn.ntmps ∧ fn.ntmps < lim then do
      let n0 ← nxt
      let r ← meas (evalC P X Y Z k c fn.ntmps (ofArgs args.toList 0 .nil) (finish P fn n0 gap))
      M.ret r.1
    else M.fail
  | none => M.fail

/-! ### It hangs on nothing but what its masks name -/
theorem leftN_loc (it : Value) : Loc (leftN it) := by
  unfold leftN
  repeat' first
    | exact Loc.ret _
    | exact Loc.rd _
    | exact rdMap_loc _
    | refine Loc.bind ?_ fun _ => ?_
    | split

theorem aNextAt_loc (it : Value) (i : Nat) : Loc (aNextAt it i) := by
  unfold aNextAt
  repeat' first
    | exact Loc.ret _
    | exact Loc.fail
    | exact Loc.opt _
    | exact Loc.rd _
    | exact Loc.wr _ _
    | exact rdMap_loc _
    | refine Loc.bind ?_ fun _ => ?_
    | split

theorem aRowK_loc (k : Nat) (l : List Value) : Loc (aRowK k l) := by
  unfold aRowK
  repeat' first
    | exact Loc.ret _
    | exact aRow_loc _ _
    | refine Loc.bind ?_ fun _ => ?_
    | split

theorem nextAlts_loc (it : Value) : Loc (nextAlts it) := by
  unfold nextAlts
  refine Loc.bind (leftN_loc _) fun _ => ?_
  split
  · exact Loc.ret _
  · exact Loc.ret _

theorem altsOf_loc (k : AKind) : Loc (altsOf k) := by
  unfold altsOf
  cases k with
  | plain => exact Loc.ret _
  | next it => exact nextAlts_loc it
  | cmp => exact Loc.ret _
  | len => exact Loc.ret _
  | many s args => exact s.loc args
  | enter g args => exact Loc.fail

/-- what is so where a kind is told -/
theorem altKind_spec (P : Program) (Y : FuncId → Option Many) (Z : FuncId → Bool) (ops : Array Oper) (o : Oper) (T : Tr Value) :
    altKind P Y Z ops o T = .plain ∨ want ops T o = some true ∧
      ((∃ it, o.op = .next it false ∧ altKind P Y Z ops o T = .next (look T it)) ∨
       (∃ op t x y yt, o.op = .binOp op t x y yt ∧ anyCmp op (look T x) (look T y) = true ∧ altKind P Y Z ops o T = .cmp) ∨
       (∃ c, o.op = .call c ∧ c.callee = .builtin .len ∧ lenUnk P c T = true ∧ altKind P Y Z ops o T = .len) ∨
       (∃ c g s, o.op = .call c ∧ c.callee = .value (.func g) ∧ hasBody P g = true ∧ Y g = some s ∧ altKind P Y Z ops o T = .many s (c.args.map (look T))) ∨
       (∃ c g, o.op = .call c ∧ c.callee = .value (.func g) ∧ hasBody P g = true ∧ altKind P Y Z ops o T = .enter g (c.args.map (look T)))) := by
  cases hw : want ops T o with
  | none => exact .inl (by unfold altKind; rw [hw])
  | some b =>
    cases b with
    | false => exact .inl (by unfold altKind; rw [hw])
    | true =>
      have e : altKind P Y Z ops o T = opKind P Y Z o T := by unfold altKind; rw [hw]
      rw [e]
      unfold opKind
      split
      · rename_i it isString hop
        cases isString with
        | true => exact .inl rfl
        | false => exact .inr ⟨rfl, .inl ⟨it, hop, rfl⟩⟩
      · rename_i op t x y yt hop
        cases hq : anyCmp op (look T x) (look T y) with
        | false => exact .inl rfl
        | true =>
          exact .inr ⟨rfl, .inr (.inl ⟨op, t, x, y, yt, hop, hq, rfl⟩)⟩
      · rename_i c hop
        unfold callKind
        split
        · rename_i g hcal
          cases hb : hasBody P g with
          | false => exact .inl rfl
          | true =>
            cases hz : Z g with
            | true => exact .inr ⟨rfl, .inr (.inr (.inr (.inr ⟨c, g, hop, hcal, hb, rfl⟩)))⟩
            | false =>
              cases hy : Y g with
              | none => exact .inl rfl
              | some s => exact .inr ⟨rfl, .inr (.inr (.inr (.inl ⟨c, g, s, hop, hcal, hb, hy, rfl⟩)))⟩
        · rename_i hcal
          cases hq : lenUnk P c T with
          | false => exact .inl rfl
          | true => exact .inr ⟨rfl, .inr (.inr (.inl ⟨c, hop, hcal, hq, rfl⟩))⟩
        · exact .inl rfl
      · exact .inl rfl

section
variable (P : Program) {X : Ext} {Y : FuncId → Option Many} {Z : FuncId → Bool} {call : Func → FuncId → Array Value → M Value} {callC : FuncId → Array Value → (Value → M Value) → M Value}

theorem runAlt_loc (hc : ∀ fn g args, Loc (call fn g args)) (ops : Array Oper) (o : Oper) (T : Tr Value) (c : Alt) : Loc (runAlt P X call ops o T c) := by
  unfold runAlt
  repeat' first
    | exact step_loc P hc _ _ _
    | exact aNextAt_loc _ _
    | exact aRowK_loc _ _
    | exact Loc.fail
    | exact Loc.ret _
    | split

theorem stepsC_loc (hc : ∀ fn g args, Loc (call fn g args)) (hcc : ∀ g args K, (∀ v, Loc (K v)) → Loc (callC g args K)) (ops : Array Oper) (n : Nat) : ∀ (l : List Oper) (T : Tr Value) (K : Tr Value → M Value), (∀ T, Loc (K T)) → Loc (stepsC P X Y Z call callC ops n l T K)
  | [], T, K, hK => hK T
  | o :: rest, T, K, hK => by
    have ih := fun T' => stepsC_loc hc hcc ops n rest T' K hK
    unfold stepsC
    split
    · exact hcc _ _ _ fun v => Loc.bind (Loc.opt _) fun T' => ih T'
    · exact Loc.bind (altsOf_loc _) fun l => forkM_loc (fun c => Loc.bind (runAlt_loc P hc ops o T c) fun _ => Loc.bind (Loc.opt _) fun T' => ih T') l

theorem anyS_loc (hc : ∀ fn g args, Loc (call fn g args)) (ops : Array Oper) (n : Nat) : ∀ (f : Nat) (listed : Array Bool) (T : Tr Value) (K : Array Bool → Tr Value → M Value), (∀ l T, Loc (K l T)) → Loc (anyS P X call ops n f listed T K)
  | 0, listed, T, K, hK => hK listed T
  | f + 1, listed, T, K, hK => by
    unfold anyS
    split
    · exact Loc.fail
    · exact forkM_loc (fun i => Loc.bind (Loc.opt _) fun o => Loc.bind (step_loc P hc ops o T) fun _ => Loc.bind (Loc.opt _) fun T' => anyS_loc hc ops n f _ T' K hK) _

omit P in
theorem packK_loc (ops : Array Oper) (goal listed : Array Bool) (T : Tr Value) : Loc (packK ops goal listed T) := by
  unfold packK
  split
  · exact Loc.ret _
  · exact Loc.fail

theorem anyPh_loc (hc : ∀ fn g args, Loc (call fn g args)) (ops : Array Oper) (n : Nat) : ∀ (fs : List Nat) (k : Nat) (listed : Array Bool) (T : Tr Value) (K : Tr Value → M Value), (∀ T, Loc (K T)) → Loc (anyPh P X call ops n fs k listed T K)
  | [], k, listed, T, K, hK => by
    unfold anyPh
    split
    · exact hK T
    · exact Loc.fail
  | f :: fs, k, listed, T, K, hK => by
    unfold anyPh
    exact Loc.bind (Loc.meas (anyS_loc P hc ops n f _ T _ fun l T => packK_loc ops _ l T)) fun _ => Loc.bind (Loc.opt _) fun T' => anyPh_loc hc ops n fs _ _ T' K hK

theorem evalRegC_loc (hc : ∀ fn g args, Loc (call fn g args)) (hcc : ∀ g args K, (∀ v, Loc (K v)) → Loc (callC g args K)) (ops : Array Oper) (draw : Bool) (n : Nat) (T : Tr Value) (K : Tr Value → M Value) (hK : ∀ T, Loc (K T)) : Loc (evalRegC P X Y Z call callC ops draw n T K) := by
  unfold evalRegC
  split
  · exact stepsC_loc P hc hcc ops n _ T K hK
  · split
    · exact anyPh_loc P hc ops n _ _ _ T K hK
    · exact Loc.bind (evalRegion_loc P hc ops true n T) hK

theorem enterC_loc {E : Code → Nat → Tr Value → (Out → Tr Value → M Value) → M Value} (hE : ∀ c n T K, (∀ o T, Loc (K o T)) → Loc (E c n T K)) (g : FuncId) (args : Array Value) (K : Value → M Value) (hK : ∀ v, Loc (K v)) : Loc (enterC P E g args K) := by
  unfold enterC
  split
  · split
    · split
      · refine hE _ _ _ _ fun o T => ?_
        split
        · exact Loc.bind (aResults_loc P _ T) hK
        · exact Loc.bind (aResults_loc P _ T) hK
        · exact Loc.fail
      · exact Loc.fail
    · exact Loc.fail
  · exact Loc.fail

theorem evalC_loc (X : Ext) (Y : FuncId → Option Many) (Z : FuncId → Bool) : ∀ (k : Nat) (c : Code) (n : Nat) (T : Tr Value) (K : Out → Tr Value → M Value), (∀ o T, Loc (K o T)) → Loc (evalC P X Y Z k c n T K)
  | 0, c, n, T, K, hK => by
    unfold evalC
    exact Loc.fail
  | k + 1, c, n, T, K, hK => by
    have ih := evalC_loc X Y Z k
    unfold evalC
    split
    · exact hK _ _
    · exact hK _ _
    · refine ih _ n T _ fun o T => ?_
      split
      · exact ih _ n T K hK
      · exact hK _ _
    · split
      · exact ih _ n T K hK
      · exact ih _ n T K hK
      · exact Loc.fail
    · refine ih _ n T _ fun o T => ?_
      split
      · split
        · exact hK _ _
        · exact hK _ _
      · exact hK _ _
    · refine ih _ n T _ fun o T => ?_
      split
      · exact ih _ n T K hK
      · exact hK _ _
    · exact hK _ _
    · exact hK _ _
    · exact hK _ _
    · exact evalRegC_loc P (fun fn g args => enter_loc P (evalCode_loc P X k) fn g args) (fun g args K hK => enterC_loc P ih g args K hK) _ _ n T _ fun T => hK _ T
    · exact Loc.fail
end

theorem clear_get : ∀ (n s : Nat) (t : Tr Obj) (x : Nat), s + n ≤ lim → (clear n s t).get D x = if s ≤ x ∧ x < s + n then none else t.get D x
  | 0, s, t, x, _ => by
    rw [if_neg (by omega)]
    rfl
  | n + 1, s, t, x, h => by
    unfold clear
    rw [force_eq, clear_get n (Nat.succ s) _ x (by omega), Tr.get_set t s x none (by omega)]
    by_cases h1 : Nat.succ s ≤ x ∧ x < Nat.succ s + n
    · rw [if_pos h1, if_pos (by omega)]
    · rw [if_neg h1]
      by_cases h2 : x = s
      · rw [if_pos h2, if_pos (by omega)]
      · rw [if_neg h2, if_neg (by omega)]

theorem span_test (n0 gap x : Nat) : (Nat.shiftLeft (2 ^ gap - 1) n0).testBit x = decide (n0 ≤ x ∧ x < n0 + gap) := by
  show ((2 ^ gap - 1) <<< n0).testBit x = _
  rw [Nat.testBit_shiftLeft, Nat.testBit_two_pow_sub_one]
  by_cases h : n0 ≤ x
  · simp only [ge_iff_le, h, decide_true, Bool.true_and, true_and, decide_eq_decide]
    omega
  · simp [h]

/-- the state behind -/
def St.wiped (A : St) (n0 gap : Nat) : St := { A with heap := clear gap n0 A.heap, next := n0 + gap, W := Nat.lor A.W (Nat.shiftLeft (2 ^ gap - 1) n0) }

theorem wipe_eq {n0 gap : Nat} {A B : St} {u : Unit} : wipe n0 gap A = some (u, B) ↔ (n0 ≤ A.next ∧ A.next ≤ n0 + gap ∧ n0 + gap ≤ lim ∧ A.ro ≤ n0) ∧ B = A.wiped n0 gap := by
  unfold wipe
  simp only [force_eq]
  generalize he : (Nat.ble n0 A.next && Nat.ble A.next (n0 + gap) && Nat.ble (n0 + gap) lim && Nat.ble A.ro n0) = c
  cases c with
  | true =>
    simp only [Bool.and_eq_true, Nat.ble_eq] at he
    simp only [Option.some.injEq, Prod.mk.injEq]
    constructor
    · rintro ⟨_, rfl⟩; exact ⟨⟨he.1.1.1, he.1.1.2, he.1.2, he.2⟩, rfl⟩
    · rintro ⟨_, rfl⟩; exact ⟨trivial, rfl⟩
  | false =>
    simp only [reduceCtorEq, false_iff, not_and]
    rintro ⟨h1, h2, h3, h4⟩
    rw [← Nat.ble_eq] at h1 h2 h3 h4
    rw [h1, h2, h3, h4] at he
    cases he

theorem St.wiped_get (A : St) {n0 gap : Nat} (h : n0 + gap ≤ lim) (x : Nat) : (A.wiped n0 gap).get x = if n0 ≤ x ∧ x < n0 + gap then none else A.get x := clear_get gap n0 A.heap x h

theorem wipe_loc (n0 gap : Nat) : Loc (wipe n0 gap) := by
  intro A v A' he
  rw [wipe_eq] at he
  obtain ⟨⟨h1, h2, h3, h4⟩, rfl⟩ := he
  have hw : ∀ x, (A.wiped n0 gap).W.testBit x = (A.W.testBit x || decide (n0 ≤ x ∧ x < n0 + gap)) := fun x => by
    show (Nat.lor _ _).testBit x = _
    rw [lor_test, span_test]
  refine ⟨⟨rfl, h2, fun x hx => hx, fun x hx => by rw [hw, hx, Bool.true_or], fun x hx => ?_, fun x p q => ?_⟩, fun B hB => ?_⟩
  · rw [hw, Bool.or_eq_false_iff, decide_eq_false_iff_not] at hx
    rw [St.wiped_get A h3, if_neg hx.2]
  · rw [hw]
    have q' : x < n0 + gap := q
    simp only [Bool.or_eq_true, decide_eq_true_eq]
    right
    omega
  · obtain ⟨b1, b2, b3, b4, b5⟩ := hB
    refine ⟨B.wiped n0 gap, ?_, rfl, b2, b3, ?_, fun x => ?_⟩
    · rw [wipe_eq]
      exact ⟨⟨by rw [b1]; exact h1, by rw [b1]; exact h2, h3, by rw [b2]; exact h4⟩, rfl⟩
    · show Nat.lor B.W _ = Nat.lor A.W _
      rw [b4]
    · rw [St.wiped_get B h3, St.wiped_get A h3]
      by_cases e : n0 ≤ x ∧ x < n0 + gap
      · rw [if_pos e, if_pos e]
        split <;> first | rfl | skip
        rename_i hn
        rw [hw] at hn
        simp [e] at hn
      · rw [if_neg e, if_neg e]
        split
        · rename_i hx
          exact b5 x (by rw [hx]; simp)
        · rfl

theorem nxt_loc : Loc nxt := by
  intro A v A' h
  cases h
  refine ⟨Mono.refl A, fun B hB => ⟨B, by unfold nxt; rw [hB.1], hB.1, hB.2.1, hB.2.2.1, hB.2.2.2.1, fun x => ?_⟩⟩
  split
  · rename_i hw; exact hB.2.2.2.2 x (by simp [hw])
  · rfl

theorem settle_loc (n0 gap : Nat) (v : Value) : Loc (settle n0 gap v) := by
  unfold settle
  repeat' first
    | exact Loc.ret _
    | exact Loc.fail
    | exact Loc.rd _
    | exact Loc.al _
    | exact wipe_loc _ _
    | refine Loc.bind ?_ fun _ => ?_
    | split

theorem finish_loc (P : Program) (fn : Func) (n0 gap : Nat) (o : Out) (T : Tr Value) : Loc (finish P fn n0 gap o T) := by
  unfold finish
  repeat' first
    | exact Loc.fail
    | exact aResults_loc P fn T
    | exact settle_loc _ _ _
    | refine Loc.bind ?_ fun _ => ?_
    | split

theorem forkCall_loc (P : Program) (X : Ext) (Y : FuncId → Option Many) (Z : FuncId → Bool) (k gap : Nat) (g : FuncId) (args : Array Value) : Loc (forkCall P X Y Z k gap g args) := by
  unfold forkCall
  repeat' first
    | exact Loc.fail
    | exact Loc.opt _
    | exact Loc.ret _
    | exact nxt_loc
    | exact Loc.meas (evalC_loc P X Y Z k _ _ _ _ fun o T => finish_loc P _ _ _ o T)
    | refine Loc.bind ?_ fun _ => ?_
    | split

def forkK (P : Program) (X : Ext) (Y : FuncId → Option Many) (Z : FuncId → Bool) (k gap : Nat) (g : FuncId) : Known := ⟨forkCall P X Y Z k gap g, forkCall_loc P X Y Z k gap g⟩

end Go.Det
