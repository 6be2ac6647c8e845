/- A deterministic evaluator over the model's programs: definitions only. -/
import Derived.Orders
import Derived.Below
namespace Go.Det

/-! ### A binary trie over numbers -/
inductive Tr (α : Type) where
  | nil
  | node (l : Tr α) (v : Option α) (r : Tr α)

def Tr.get {α : Type} : Nat → Tr α → Nat → Option α
  | 0, _, _ => none
  | _ + 1, .nil, _ => none
  | d + 1, .node l v r, n =>
    match Nat.beq n 0 with
    | true => v
    | false =>
      match Nat.beq (n % 2) 0 with
      | true => Tr.get d r (n / 2 - 1)
      | false => Tr.get d l (n / 2)

def Tr.set {α : Type} : Nat → Tr α → Nat → Option α → Tr α
  | 0, t, _, _ => t
  | d + 1, .nil, n, x =>
    match Nat.beq n 0 with
    | true => .node .nil x .nil
    | false =>
      match Nat.beq (n % 2) 0 with
      | true => .node .nil none (Tr.set d .nil (n / 2 - 1) x)
      | false => .node (Tr.set d .nil (n / 2) x) none .nil
  | d + 1, .node l v r, n, x =>
    match Nat.beq n 0 with
    | true => .node l x r
    | false =>
      match Nat.beq (n % 2) 0 with
      | true => .node l v (Tr.set d r (n / 2 - 1) x)
      | false => .node (Tr.set d l (n / 2) x) v r

/-- how deep a trie is -/
def D : Nat := 22
/-- ids and slots stay below -/
def lim : Nat := 1048576

/-- a number forced to a numeral -/
def force {β : Type} (n : Nat) (k : Nat → β) : β :=
  match n with
  | 0 => k 0
  | m + 1 => k (Nat.succ m)

structure St where
  heap : Tr Obj
  next : Nat
  ro : Nat
  R : Nat
  W : Nat

def bit (n : Nat) : Nat := Nat.shiftLeft 1 n

def St.get (A : St) (id : Nat) : Option Obj := A.heap.get D id

/-- a step of the evaluator -/
def M (α : Type) : Type := St → Option (α × St)

namespace M
def ret {α : Type} (a : α) : M α := fun A => some (a, A)
def fail {α : Type} : M α := fun _ => none
def bind {α β : Type} (m : M α) (f : α → M β) : M β := fun A =>
  match m A with
  | some (a, A) => f a A
  | none => none
def opt {α : Type} : Option α → M α
  | some a => ret a
  | none => fail
end M
instance : Monad M where
  pure := M.ret
  bind := M.bind

/-- the object of an id -/
def rd (id : Nat) : M Obj := fun A =>
  match A.get id with
  | some o => force (Nat.lor A.R (bit id)) fun R => some (o, { A with R })
  | none => none

/-- write an object, or let it go -/
def wr (id : Nat) (o : Option Obj) : M Unit := fun A =>
  match Nat.blt id lim with
  | true =>
    match Nat.ble A.ro id with
    | true => force (Nat.lor A.W (bit id)) fun W => some ((), { A with heap := A.heap.set D id o, W })
    | false => none
  | false => none

/-- a new object -/
def al (o : Obj) : M Nat := fun A =>
  match Nat.blt A.next lim with
  | true =>
    match Nat.ble A.ro A.next with
    | true => force (Nat.succ A.next) fun next => force (Nat.lor A.W (bit A.next)) fun W => some (A.next, { A with heap := A.heap.set D A.next (some o), next, W })
    | false => none
  | false => none

/-- a step with its own masks told -/
def meas {α : Type} (m : M α) : M (α × Nat × Nat) := fun A =>
  match m { A with R := 0, W := 0 } with
  | some (a, B) => force (Nat.lor A.R B.R) fun R => force (Nat.lor A.W B.W) fun W => some ((a, B.R, B.W), { B with R, W })
  | none => none

/-! ### Values -/
def ground : Nat → Value → Bool
  | 0, _ => false
  | _ + 1, .pointer a => a.isNone
  | _ + 1, .slice a _ _ => a.isNone
  | _ + 1, .map r => r.isNone
  | _ + 1, .chan _ => false
  | n + 1, .func _ f c => f.toList.all (ground n) && c.toList.all (ground n)
  | n + 1, .iface _ v => ground n v
  | n + 1, .agg cs => cs.toList.all (ground n)
  | n + 1, .tuple vs => vs.toList.all (ground n)
  | _ + 1, .bool _ | _ + 1, .int _ _ | _ + 1, .float _ _ | _ + 1, .complex _ _ _ | _ + 1, .string _ | _ + 1, .nilFunc | _ + 1, .nilIface => true

def gr (v : Value) : Bool := ground 8 v

/-- a program that looks at no memory -/
def runP (P : Program) {α : Type} : Sem α → Option α
  | .pure a => some a
  | .program k => runP P (k P)
  | .mark _ k => runP P k
  | .choose q k => if q.forced then runP P (k 0) else none
  | _ => none

/-- its value, if it leads to no memory -/
def pureV (P : Program) (s : Sem Value) : Option Value :=
  match runP P s with
  | some v => if gr v then some v else none
  | none => none

def tsize (P : Program) (t : TypeId) : Option Nat := (P.info? t).map (·.size)
def tzero (P : Program) (t : TypeId) : Option Value :=
  match P.info? t with
  | some i =>
    match i.zero with
    | some z => if gr z then some z else none
    | none => none
  | none => none
def tagg (P : Program) (t : TypeId) : Option Bool :=
  match P.underlying t with
  | some (.struct _) | some (.array _ _) => some true
  | some _ => some false
  | none => none

/-- one cell, whatever it is (.chan none: anything at all; .chan (some _): a cell of which nothing is known) -/
def one : Value → Bool
  | .agg _ | .tuple _ | .chan none => false
  | _ => true

def isAny : Value → Bool
  | .chan none => true
  | _ => false

/-- the cells of a block, from an offset on, so many -/
def ldCells (c : Array Value) (off n : Nat) : Option (List Value) :=
  match Nat.ble (off + n) c.size with
  | true => some ((c.toList.drop off).take n)
  | false => none

def stCells (c : Array Value) (off : Nat) : List Value → Array Value
  | [] => c
  | v :: r => stCells (c.setIfInBounds off v) (off + 1) r

/-- the cells behind an id -/
def rdCells (id : Nat) : M (Array Value) := do
  match ← rd id with
  | .cells c _ _ => M.ret c
  | _ => M.fail

/-- load a variable of a type at an address -/
def aLoad (P : Program) (t : TypeId) (a : Value) : M Value :=
  match a with
  | .pointer (some ⟨id, off, none⟩) => do
    let c ← rdCells id
    match tagg P t with
    | some false => M.opt c[off]?
    | some true => do
      let n ← M.opt (tsize P t)
      let l ← M.opt (ldCells c off n)
      M.ret (.agg ⟨l⟩)
    | none => M.fail
  | _ => M.fail

def aStoreAt (id off : Nat) (vs : List Value) : M Unit := do
  match ← rd id with
  | .cells c e fz =>
    match Nat.ble (off + vs.length) c.size && vs.all one with
    | true => wr id (some (.cells (stCells c off vs) e fz))
    | false => M.fail
  | _ => M.fail

def aStore (P : Program) (t : TypeId) (a v : Value) : M Unit :=
  match a with
  | .pointer (some ⟨id, off, none⟩) => do
    let n ← M.opt (tsize P t)
    if isAny v = false ∧ v.cells.size = n then aStoreAt id off v.cells.toList else M.fail
  | _ => M.fail

/-- a new row of cells -/
def aRow (e : TypeId) (cs : Array Value) : M Nat :=
  if cs.toList.all one then al (.cells cs e (0, 0)) else M.fail

/-- a new variable: its cells begin the block -/
def aBox (e : TypeId) (cs : Array Value) : M Nat :=
  if cs.toList.all one then al (.cells cs e (1, 0)) else M.fail

def aNew (e : TypeId) (v : Value) : M Value := do
  let id ← aBox e v.cells
  M.ret (.pointer (some ⟨id, 0, none⟩))

/-- Instr.fill over lists of places -/
def aFill (place : Nat → Option (Nat × Nat)) (cells : Array Value) (parts : List (Nat × Value)) : Option (Array Value) :=
  if parts.any (fun p => isAny p.2) then none else Instr.fill place cells parts

def aBuild (P : Program) (t : TypeId) (parts : Array (Nat × Value)) : Option Value :=
  match tzero P t with
  | some z =>
    match P.underlying t with
    | some (.struct fields) =>
      match (fields.toList.mapM fun f => (tsize P f.type).map fun s => (f.offset, s)) with
      | some places => (aFill (places[·]?) z.cells parts.toList).map .agg
      | none => none
    | some (.array _ elem) =>
      match tsize P elem with
      | some size => (aFill (fun i => some (i * size, size)) z.cells parts.toList).map .agg
      | none => none
    | _ => none
  | none => none

def zeros (z : Value) (n : Nat) : Array Value := (Array.range n).map (z.cells[· % z.cells.size]!)

def aBuildSlice (P : Program) (t : TypeId) (len : Nat) (parts : Array (Nat × Value)) : M Value :=
  match P.underlying t with
  | some (.slice elem) => do
    let size ← M.opt (tsize P elem)
    let z ← M.opt (tzero P elem)
    if len * size > 16777216 then M.fail else do
      let cells ← M.opt (aFill (fun i => some (i * size, size)) (zeros z (len * size)) parts.toList)
      let id ← aRow elem cells
      M.ret (.slice (some ⟨id, 0, none⟩) len len)
  | _ => M.fail

def aMakeSlice (P : Program) (t : TypeId) (len cap : Value) : M Value :=
  match P.underlying t, len, cap with
  | some (.slice elem), .int _ l, .int _ c => do
    let i ← M.opt (P.info? elem)
    let z ← M.opt (tzero P elem)
    if 0 ≤ l ∧ l ≤ c ∧ c ≤ 1048576 ∧ i.bytes * 1048576 ≤ 140737488355328 then do
      let id ← aRow elem (zeros z (c.toNat * i.size))
      M.ret (.slice (some ⟨id, 0, none⟩) l.toNat c.toNat)
    else M.fail
  | _, _, _ => M.fail

/-- a bound from 0 up to a number -/
def boundOf (v : Value) (top : Nat) : Option Nat :=
  match v with
  | .int _ n => if 0 ≤ n ∧ n ≤ top then some n.toNat else none
  | _ => none

def bound (v : Option Value) (top other : Nat) : Option Nat :=
  match v with
  | some v => boundOf v top
  | none => some other

/-- no bound, or 0 -/
def zeroOr : Option Value → Bool
  | none => true
  | some (.int _ n) => n == 0
  | _ => false

/-- s[low:high:max] of a slice -/
def aSlice (P : Program) (t : TypeId) (x : Value) (low high max : Option Value) : Option Value :=
  match P.underlying t with
  | some (.slice elem) =>
    match tsize P elem with
    | some size =>
      match x with
      | .slice (some ⟨id, off, none⟩) len cap =>
        if max.isSome && high.isNone then none else
        match bound max cap cap with
        | some m =>
          match bound high m len with
          | some h =>
            match bound low h 0 with
            | some l => some (.slice (some (if m = l then ⟨id, off, none⟩ else ⟨id, off + l * size, none⟩)) (h - l) (m - l))
            | none => none
          | none => none
        | none => none
      | .slice (some ⟨id, off, some sz⟩) len _ =>
        if sz ≠ size then none else
        match max with
        | some mv =>
          if len = 0 || high.isNone then none else
          match boundOf mv len with
          | some m =>
            match bound high m 0 with
            | some h =>
              match bound low h 0 with
              | some l => some (.slice (some (if m = l then ⟨id, off, none⟩ else ⟨id, off + l * size, none⟩)) (h - l) (m - l))
              | none => none
            | none => none
          | none => none
        | none =>
          match bound high len len with
          | some h =>
            match bound low h 0 with
            | some l => some (.slice (some ⟨id, off + l * size, some sz⟩) (h - l) (h - l))
            | none => none
          | none => none
      | .slice none len cap =>
        if len = 0 ∧ cap = 0 ∧ zeroOr low ∧ zeroOr high ∧ zeroOr max ∧ !(max.isSome && high.isNone) then some x else none
      | _ => none
    | none => none
  | _ => none

/-- the cells of a slice or a string that is appended or copied -/
def aCells (size n : Nat) (x : Value) : M (List Value) :=
  match x with
  | .slice none _ _ => if n = 0 then M.ret [] else M.fail
  | .slice (some ⟨id, off, _⟩) _ _ =>
    if n * size = 0 then M.ret [] else do
      let c ← rdCells id
      M.opt (ldCells c off (n * size))
  | .string s => if size = 1 then M.ret ((s.data.toList.take n).map fun b => .int .u8 b.toNat) else M.fail
  | _ => M.fail

def aLen : Value → Option Nat
  | .slice _ n _ => some n
  | .string s => some s.size
  | _ => none

def isIntType (P : Program) (t : TypeId) : Bool :=
  match P.underlying t with
  | some (.int _) => true
  | some _ => false
  | none => true

/-- append: 's' with 'len' elements, 'n' more that stand in 'x' -/
def aAppendTo (elem : TypeId) (size : Nat) (s x : Value) (len n : Nat) : M Value :=
  match s with
  | .slice none _ cap =>
    if len ≠ 0 ∨ cap ≠ 0 then M.fail else do
      let xs ← aCells size n x
      if n = 0 then M.ret s else do
        let id ← aRow elem ⟨xs⟩
        M.ret (.slice (some ⟨id, 0, some size⟩) n n)
  | .slice (some ⟨id, off, none⟩) _ cap => do
    let xs ← aCells size n x
    if len + n ≤ cap then
      if n = 0 then M.ret s else do
        aStoreAt id (off + len * size) xs
        M.ret (.slice (some ⟨id, off, none⟩) (len + n) cap)
    else do
      let os ← aCells size len s
      let id ← aRow elem ⟨os ++ xs⟩
      M.ret (.slice (some ⟨id, 0, some size⟩) (len + n) (len + n))
  | .slice (some ⟨id, off, some sz⟩) _ _ =>
    if sz ≠ size then M.fail else do
      let xs ← aCells size n x
      if n = 0 then M.ret s else do
        match ← rd id with
        | .cells c e _ => do
          let os ← M.opt (ldCells c off (len * size))
          wr id none
          let id ← aRow e ⟨os ++ xs⟩
          M.ret (.slice (some ⟨id, 0, some size⟩) (len + n) (len + n))
        | _ => M.fail
  | _ => M.fail

def aAppend (P : Program) (argTypes : Array TypeId) (args : Array Value) : M Value :=
  match argTypes[0]?, argTypes[1]?, args[0]?, args[1]? with
  | some st, some xt, some s, some x =>
    match P.underlying st with
    | some (.slice elem) => do
      let i ← M.opt (P.info? elem)
      let z ← M.opt (tzero P elem)
      let len ← M.opt (aLen s)
      let n ← M.opt (aLen x)
      if z.cells.size = i.size ∧ 0 < i.size ∧ 0 < i.bytes ∧ isIntType P xt = false ∧ (2 * (len + n) + 1024) * i.bytes ≤ 140737488355328 then
        aAppendTo elem i.size s x len n
      else M.fail
    | _ => M.fail
  | _, _, _, _ => M.fail

def aCopy (P : Program) (argTypes : Array TypeId) (args : Array Value) : M Value :=
  match (argTypes[0]? : Option TypeId), (args[0]? : Option Value), (args[1]? : Option Value) with
  | some dt, some (.slice base dLen _), some src =>
    match P.underlying dt with
    | some (.slice elem) => do
      let size ← M.opt (tsize P elem)
      let n ← M.opt (aLen src)
      let k := Nat.min n dLen
      let xs ← aCells size k src
      if k = 0 then M.ret (goInt k) else
        match base with
        | some ⟨id, off, _⟩ => do
          aStoreAt id off xs
          M.ret (goInt k)
        | none => M.fail
    | _ => M.fail
  | _, _, _ => M.fail

def aClear (P : Program) (argTypes : Array TypeId) (args : Array Value) : M Value :=
  match argTypes[0]?, args[0]? with
  | some t, some x =>
    match P.underlying t, x with
    | some _, .slice none _ _ => M.ret (.tuple #[])
    | some _, .slice (some _) 0 _ => M.ret (.tuple #[])
    | some (.slice elem), .slice (some ⟨id, off, _⟩) (n + 1) _ => do
      let z ← M.opt (tzero P elem)
      aStoreAt id off (Builtin.zeroCells z.cells (n + 1)).toList
      M.ret (.tuple #[])
    | some _, .map (some r) => do
      match ← rd r with
      | .map _ clock => do
        wr r (some (.map #[] clock))
        M.ret (.tuple #[])
      | _ => M.fail
    | _, _ => M.fail
  | _, _ => M.fail

def aLenOp (P : Program) (argTypes : Array TypeId) (args : Array Value) : M Value :=
  match argTypes[0]?, args[0]? with
  | some t, some x =>
    match P.underlying t, x with
    | some .string, .string s => M.ret (goInt s.size)
    | some (.slice _), .slice _ n _ => M.ret (goInt n)
    | some (.slice _), .chan (some r) =>
      match Nat.beq r 8 with
      | true => M.ret (goInt 0)
      | false =>
        match Nat.beq r 7 with
        | true => M.ret (.chan (some 4))
        | false => M.fail
    | some (.map _ _), .map none => M.ret (goInt 0)
    | some (.map _ _), .map (some r) => do
      match ← rd r with
      | .map es _ => M.ret (goInt es.size)
      | _ => M.fail
    | _, _ => M.fail
  | _, _ => M.fail

/-- among entries whose keys are structs -/
def findP (P : Program) (kt : TypeId) (k : Value) : List MapEntry → Nat → Option (Option (Nat × Value))
  | [], _ => some none
  | e :: es, i =>
    match runP P (Op.equal kt k e.key) with
    | some true => some (some (i, e.val))
    | some false => findP P kt k es (i + 1)
    | none => none

def isStruct : TypeDesc → Bool
  | .struct _ | .array _ _ => true
  | _ => false

/-- a key as maps of the program have it -/
def aFind (P : Program) (kt : TypeId) (k : Value) (es : Array MapEntry) : Option (Option (Nat × Value)) :=
  match P.underlying kt with
  | some d =>
    match d with
    | .int _ | .string | .bool => if gr k then Instr.findNow d k es.toList 0 else none
    | d => if isStruct d && gr k && (runP P (Instr.checkKey true 10000 kt k)).isSome && (runP P (Instr.checkKey false 10000 kt k)).isSome then findP P kt k es.toList 0 else none
  | none => none

/-- the key that is there is the one that is put -/
def sameKey (es : Array MapEntry) (i : Nat) (k : Value) : Bool :=
  match es[i]? with
  | some e => Instr.sameBits 10000 e.key k
  | none => false

/-- the entries of a map -/
def rdMap (r : Nat) : M (Array MapEntry × Nat) := do
  match ← rd r with
  | .map es clock => M.ret (es, clock)
  | _ => M.fail

def aDelete (P : Program) (argTypes : Array TypeId) (args : Array Value) : M Value :=
  match (argTypes[0]? : Option TypeId), (args[0]? : Option Value), (args[1]? : Option Value) with
  | some mt, some (.map (some r)), some k =>
    match P.underlying mt with
    | some (.map kt _) => do
      let (es, clock) ← rdMap r
      match ← M.opt (aFind P kt k es) with
      | some (i, _) => do
        wr r (some (.map (es.eraseIdxIfInBounds i) clock))
        M.ret (.tuple #[])
      | none => do
        wr r (some (.map es clock))
        M.ret (.tuple #[])
    | _ => M.fail
  | _, _, _ => M.fail

def aLookup (P : Program) (t : TypeId) (m k : Value) (ok : Bool) : M Value :=
  match P.underlying t with
  | some (.map kt elem) => do
    let z ← M.opt (tzero P elem)
    match m with
    | .map none => do
      let _ ← M.opt (aFind P kt k #[])
      M.ret (if ok then .tuple #[z, .bool false] else z)
    | .map (some r) => do
      let (es, _) ← rdMap r
      match ← M.opt (aFind P kt k es) with
      | some (_, v) => M.ret (if ok then .tuple #[v, .bool true] else v)
      | none => M.ret (if ok then .tuple #[z, .bool false] else z)
    | _ => M.fail
  | _ => M.fail

def aMapUpdate (P : Program) (t : TypeId) (m k v : Value) : M Unit :=
  match P.underlying t, m with
  | some (.map kt _), .map (some r) => do
    let (es, clock) ← rdMap r
    match ← M.opt (aFind P kt k es) with
    | some (i, _) => if sameKey es i k then wr r (some (.map (es.modify i fun e => { e with key := k, val := v }) clock)) else M.fail
    | none => wr r (some (.map (es.push { key := k, val := v, born := clock }) (clock + 1)))
  | _, _ => M.fail

def aMapEntry (P : Program) (t : TypeId) (m k : Value) : M Value :=
  match P.underlying t, m with
  | some (.map kt elem), .map (some r) => do
    let (es, clock) ← rdMap r
    match ← M.opt (aFind P kt k es) with
    | some (i, v) =>
      if sameKey es i k then do
        let e ← M.opt es[i]?
        wr r (some (.map (es.modify i fun e => { e with key := k }) clock))
        M.ret (.tuple #[v, goInt e.born])
      else M.fail
    | none => do
      let z ← M.opt (tzero P elem)
      wr r (some (.map (es.push { key := k, val := z, born := clock }) (clock + 1)))
      M.ret (.tuple #[z, goInt clock])
  | _, _ => M.fail

def aEntryStore (m stamp v : Value) : M Unit :=
  match m, stamp with
  | .map (some r), .int _ born => do
    let (es, clock) ← rdMap r
    let i ← M.opt (es.findIdx? (fun e => (e.born : Int) == born))
    wr r (some (.map (es.modify i fun e => { e with val := v }) clock))
  | _, _ => M.fail

def aRange (P : Program) (t : TypeId) (x : Value) : M Value :=
  match P.underlying t, x with
  | some .string, .string s => do
    let id ← al (.stringIter s 0)
    M.ret (.pointer (some ⟨id, 0, none⟩))
  | some (.map _ _), .map none => do
    let id ← al (.mapIter none 0 #[] 0)
    M.ret (.pointer (some ⟨id, 0, none⟩))
  | some (.map _ _), .map (some m) => do
    let (_, clock) ← rdMap m
    let id ← al (.mapIter (some m) clock #[] clock)
    M.ret (.pointer (some ⟨id, 0, none⟩))
  | _, _ => M.fail

def aNext (it : Value) (isString : Bool) : M Value :=
  match it with
  | .pointer (some ⟨r, 0, none⟩) => do
    match ← rd r, isString with
    | .stringIter s pos, true =>
      if pos < s.size then do
        wr r (some (.stringIter s (pos + (Utf8.decode s pos).2)))
        M.ret (.tuple #[.bool true, goInt pos, .int .i32 (Utf8.decode s pos).1])
      else M.ret (.tuple #[.bool false])
    | .mapIter none _ _ _, false => M.ret (.tuple #[.bool false])
    | .mapIter (some m) since seen last, false => do
      let (es, clock) ← rdMap m
      if !seen.isEmpty && !es.isEmpty && es.all (·.born ≥ last) then M.fail else
      match es.toList.filter fun e => !seen.contains e.born with
      | [] => M.ret (.tuple #[.bool false])
      | [e] =>
        if e.born < since then do
          wr r (some (.mapIter (some m) since (seen.push e.born) clock))
          M.ret (.tuple #[.bool true, e.key, e.val])
        else M.fail
      | _ => M.fail
    | _, _ => M.fail
  | _ => M.fail

def aEntry (it : Value) : M Value :=
  match it with
  | .pointer (some ⟨r, 0, none⟩) => do
    match ← rd r with
    | .mapIter (some m) _ seen stepped => do
      let stamp ← M.opt seen.back?
      let (es, clock) ← rdMap m
      if clock != stepped then M.fail else do
        let e ← M.opt (es.find? (·.born == stamp))
        M.ret (.tuple #[e.key, e.val])
    | _ => M.fail
  | _ => M.fail

/-- a part of a struct's or an array's cells -/
def aPart (P : Program) (t : TypeId) (cs : Array Value) (off : Nat) : Option Value :=
  match tagg P t with
  | some true =>
    match tsize P t with
    | some n => some (.agg (cs.extract off (off + n)))
    | none => none
  | some false => cs[off]?
  | none => none

def aIndex (P : Program) (t : TypeId) (x ix : Value) : Option Value :=
  match ix with
  | .int _ i =>
    match P.underlying t, x with
    | some (.array len elem), .agg cs =>
      if 0 ≤ i ∧ i < len then
        match tsize P elem with
        | some n => aPart P elem cs (i.toNat * n)
        | none => none
      else none
    | some .string, .string s =>
      if 0 ≤ i then
        match s.data.toList[i.toNat]? with
        | some b => some (.int .u8 b.toNat)
        | none => none
      else none
    | _, _ => none
  | _ => none

/-- == of two values of which one is nil, or of two pointers of one block -/
def aEq (P : Program) (t : TypeId) (x y : Value) : Option Bool :=
  match P.underlying t, x, y with
  | some (.pointer _), .pointer none, .pointer b => some b.isNone
  | some (.pointer _), .pointer (some _), .pointer none => some false
  | some (.pointer e), .pointer (some ⟨a, i, none⟩), .pointer (some ⟨b, j, none⟩) =>
    match tsize P e with
    | some n => if n = 0 then none else if a = b then some (i == j) else none
    | none => none
  | some (.slice _), .slice none _ _, .slice b _ _ => some b.isNone
  | some (.slice _), .slice (some _) _ _, .slice none _ _ => some false
  | some (.map _ _), .map none, .map b => some b.isNone
  | some (.map _ _), .map (some _), .map none => some false
  | some (.func _ _ _), .nilFunc, .nilFunc => some true
  | some (.func _ _ _), .nilFunc, .func _ _ _ => some false
  | some (.func _ _ _), .func _ _ _, .nilFunc => some false
  | some (.interface _), .nilIface, .iface _ _ => some false
  | some (.interface _), .iface _ _, .nilIface => some false
  | _, _, _ => none

/-- strings, whose bytes the model lists by a loop -/
def aStrOp (op : BinOp) (x y : ByteArray) : Option Value :=
  match op with
  | .add => if x.data.toList.length + y.data.toList.length ≤ 1048576 then some (.string ⟨⟨x.data.toList ++ y.data.toList⟩⟩) else none
  | .eql => some (.bool (x.data.toList == y.data.toList))
  | .neq => some (.bool !(x.data.toList == y.data.toList))
  | .lss => some (.bool (Op.bytesLess x.data.toList y.data.toList))
  | .leq => some (.bool (Op.bytesLess x.data.toList y.data.toList || x.data.toList == y.data.toList))
  | .gtr => some (.bool !(Op.bytesLess x.data.toList y.data.toList || x.data.toList == y.data.toList))
  | .geq => some (.bool !(Op.bytesLess x.data.toList y.data.toList))
  | _ => none

/-- is a sign one of a name's, at this place? -/
def nameCh (i : Nat) (c : UInt8) : Bool :=
  (Nat.ble 97 c.toNat && Nat.ble c.toNat 122) || (!Nat.beq i 0 && ((Nat.ble 48 c.toNat && Nat.ble c.toNat 57) || Nat.beq c.toNat 95))
def nameAll : Nat → List UInt8 → Bool
  | _, [] => true
  | i, c :: l => nameCh i c && nameAll (i + 1) l
/-- is a text a name: one to eight small letters, digits, low lines, a letter ahead? -/
def nameB (s : ByteArray) : Bool := Nat.ble 1 s.data.toList.length && Nat.ble s.data.toList.length 8 && nameAll 0 s.data.toList

/-- a symbol, held against itself -/
def aSym (op : BinOp) (r s : Nat) : Option Value :=
  match Nat.ble 16 r && Nat.beq r s with
  | true =>
    match op with
    | .eql => some (.bool true)
    | .neq => some (.bool false)
    | .leq | .geq => if Nat.ble (r % 8) 1 then some (.bool true) else none
    | .lss | .gtr => if Nat.ble (r % 8) 1 then some (.bool false) else none
    | _ => none
  | false => none

/-- is a value known to be another one than this? 4: an int that is not 0; 10: a number of 64 bits, not 0; 5, and a symbol that is a text: a text that is not empty -/
def other (x y : Value) : Bool :=
  match x with
  | .chan (some r) =>
    match y with
    | .int .i64 n => Nat.beq r 4 && decide (n = 0)
    | .int .u64 n => Nat.beq r 10 && decide (n = 0)
    | .string s => (Nat.beq r 5 || (Nat.ble 16 r && (Nat.beq (r % 8) 2 || Nat.beq (r % 8) 3))) && Nat.beq s.data.toList.length 0
    | _ => false
  | _ => false

def aBin (P : Program) (op : BinOp) (t : TypeId) (ox oy : Operand) (x y : Value) : Option Value :=
  match x, y with
  | .string a, .string b => aStrOp op a b
  | .int _ _, .int _ _ | .bool _, .bool _ | .float _ _, .float _ _ => pureV P (do eqGuard op t ox oy x y; binOp op t x y)
  | .agg _, .agg _ => if gr x && gr y then pureV P (do eqGuard op t ox oy x y; binOp op t x y) else none
  | .chan (some r), .chan (some s) => aSym op r s
  | _, _ =>
    match other x y || other y x with
    | true =>
      match op with
      | .eql => some (.bool false)
      | .neq => some (.bool true)
      | _ => none
    | false =>
      match op with
      | .eql => (aEq P t x y).map .bool
      | .neq => (aEq P t x y).map fun b => .bool !b
      | _ => none

def byteOfV : Value → Option UInt8
  | .int .u8 n => some (UInt8.ofNat n.toNat)
  | _ => none

def aConvert (P : Program) (src dst : TypeId) (x : Value) : M Value :=
  match x with
  | .int _ _ | .float _ _ => M.opt (pureV P (convert src dst x))
  | .string s =>
    match P.underlying src, P.underlying dst with
    | some .string, some .string => M.ret x
    | some .string, some (.slice e) =>
      match P.underlying e, P.info? e with
      | some (.int .u8), some i =>
        if i.size = 1 ∧ i.bytes = 1 ∧ s.data.toList.length ≤ 1048576 then do
          let id ← aRow e ⟨s.data.toList.map fun b => .int .u8 b.toNat⟩
          M.ret (.slice (some ⟨id, 0, some 1⟩) s.data.toList.length s.data.toList.length)
        else M.fail
      | _, _ => M.fail
    | _, _ => M.fail
  | .slice _ len _ =>
    match P.underlying src, P.underlying dst with
    | some (.slice e), some .string =>
      match P.underlying e with
      | some (.int .u8) => do
        let l ← aCells 1 len x
        let bs ← M.opt (l.mapM byteOfV)
        M.ret (.string ⟨⟨bs⟩⟩)
      | _ => M.fail
    | _, _ => M.fail
  | .chan (some r) =>
    match P.underlying src, P.underlying dst with
    | some (.int .i8), some (.int .i64) =>
      match Nat.ble 16 r && Nat.beq (r % 8) 1 with
      | true => M.ret (.chan (some (r - 1)))
      | false => M.fail
    | _, _ => M.fail
  | _ => M.fail

def aTypeAssert (P : Program) (x : Value) (asserted : TypeId) (ok : Bool) : Option Value :=
  match P.underlying asserted with
  | some (.interface _) => none
  | some _ =>
    match x with
    | .iface t v =>
      if t = asserted then some (if ok then .tuple #[v, .bool true] else v)
      else if ok then (tzero P asserted).map fun z => .tuple #[z, .bool false] else none
    | _ => none
  | none => none

/-! ### What a step reads and writes, and that it hangs on nothing else -/
structure Mono (A A' : St) : Prop where
  ro : A'.ro = A.ro
  next : A.next ≤ A'.next
  R : ∀ x, A.R.testBit x = true → A'.R.testBit x = true
  W : ∀ x, A.W.testBit x = true → A'.W.testBit x = true
  same : ∀ x, A'.W.testBit x = false → A'.get x = A.get x
  new : ∀ x, A.next ≤ x → x < A'.next → A'.W.testBit x = true

def Like (A' B B' : St) : Prop := B'.next = A'.next ∧ B'.ro = A'.ro ∧ B'.R = A'.R ∧ B'.W = A'.W ∧ ∀ x, B'.get x = if A'.W.testBit x = true then A'.get x else B.get x

def Agree (A A' B : St) : Prop := B.next = A.next ∧ B.ro = A.ro ∧ B.R = A.R ∧ B.W = A.W ∧ ∀ x, (A'.R.testBit x || A'.W.testBit x) = true → B.get x = A.get x

def Loc {α : Type} (m : M α) : Prop := ∀ A v A', m A = some (v, A') → Mono A A' ∧ ∀ B, Agree A A' B → ∃ B', m B = some (v, B') ∧ Like A' B B'

/-- a function of which a contract is known: what it comes to -/
abbrev Known : Type := { h : Array Value → M Value // ∀ args, Loc (h args) }

/-- what a seat says of the functions without a body, and of those that have a contract -/
structure Ext where
  pure : FuncId → Option (Array Value → Sem Value)
  clone : FuncId → Bool
  fn : FuncId → Option Known := fun _ => none
  bits : FuncId → Bool := fun _ => false

def aClone (args : Array Value) : M Value :=
  match args.toList with
  | [.iface t (.map (some r))] => do
    let (es, clock) ← rdMap r
    let id ← al (.map es clock)
    M.ret (.iface t (.map (some id)))
  | _ => M.fail

def aCallee (f : Value) (args : Array Value) : Option (FuncId × Array Value) :=
  match f with
  | .func (.func g) first captured => some (g, first ++ args ++ captured)
  | _ => none

/-- one value, of which just this is known -/
def isTok (r : Nat) : List Value → Bool
  | [.chan (some s)] => Nat.beq s r
  | _ => false

def aCall (P : Program) (X : Ext) (call : Func → FuncId → Array Value → M Value) (f : Value) (args : Array Value) : M Value := do
  let (g, all) ← M.opt (aCallee f args)
  let fn ← M.opt P.funcs[g]?
  match fn.body with
  | some _ =>
    match X.fn g with
    | some s => s.val all
    | none => call fn g all
  | none =>
    match X.clone g with
    | true => aClone all
    | false =>
      match X.bits g && isTok 6 all.toList with
      | true => M.ret (.chan (some 10))
      | false => do
        let h ← M.opt (X.pure g)
        if all.toList.all gr then M.opt (pureV P (h all)) else M.fail

def isIntV : Value → Bool
  | .int _ _ => true
  | _ => false

def aBuiltin (P : Program) (b : Builtin) (argTypes : Array TypeId) (args : Array Value) : M Value :=
  match b with
  | .append => aAppend P argTypes args
  | .copy => aCopy P argTypes args
  | .clear => aClear P argTypes args
  | .delete => aDelete P argTypes args
  | .len => aLenOp P argTypes args
  | .max => if args.toList.all isIntV then M.opt (pureV P (Builtin.max_ argTypes 0 args)) else M.fail
  | .min => if args.toList.all isIntV then M.opt (pureV P (Builtin.min_ argTypes 0 args)) else M.fail
  | _ => M.fail

def hintOk (P : Program) (t : TypeId) : Option Value → Bool
  | none => true
  | some (.int _ _) => (match P.underlying t with | some (.map _ _) => true | _ => false)
  | _ => false

/-- one operation -/
def evalOp (P : Program) (X : Ext) (call : Func → FuncId → Array Value → M Value) (ρ : Operand → Value) (o : Oper) : M Value :=
  match o.op with
  | .move x | .assign x => M.ret (ρ x)
  | .pick c a b =>
    match ρ c with
    | .bool t => M.ret (if t then ρ a else ρ b)
    | _ => M.fail
  | .alloc t => do
    let z ← M.opt (tzero P t)
    aNew t z
  | .box t x => aNew t (ρ x)
  | .build t parts => M.opt (aBuild P t (parts.map fun (i, x) => (i, ρ x)))
  | .buildSlice t len parts => aBuildSlice P t len (parts.map fun (i, x) => (i, ρ x))
  | .load t a => aLoad P t (ρ a)
  | .store t a x => do
    aStore P t (ρ a) (ρ x)
    M.ret undef
  | .nilCheck x =>
    match ρ x with
    | .pointer (some a) => M.ret (.pointer (some a))
    | .func (.func f) a b => M.ret (.func (.func f) a b)
    | .map m => M.ret (.map m)
    | _ => M.fail
  | .binOp op t x y _ => M.opt (aBin P op t x y (ρ x) (ρ y))
  | .unOp op _ x => if gr (ρ x) then M.opt (pureV P (Op.unary op (ρ x))) else M.fail
  | .convert src dst x => aConvert P src dst (ρ x)
  | .makeInterface t x =>
    match P.underlying t with
    | some (.interface _) => M.fail
    | some _ => M.ret (.iface t (ρ x))
    | none => M.fail
  | .makeFunc fn first captured => M.ret (.func fn (first.map ρ) (captured.map ρ))
  | .makeMap t r =>
    if hintOk P t (r.map ρ) then do
      let id ← al (.map #[] 0)
      M.ret (.map (some id))
    else M.fail
  | .makeSlice t l c => aMakeSlice P t (ρ l) (ρ c)
  | .slice t x lo hi mx =>
    match ρ x with
    | .string s =>
      if (lo.all fun v => gr (ρ v)) && (hi.all fun v => gr (ρ v)) && mx.isNone then
        M.opt (pureV P (Instr.sliceAt t (.string s) (lo.map ρ) (hi.map ρ) none))
      else M.fail
    | v => M.opt (aSlice P t v (lo.map ρ) (hi.map ρ) (mx.map ρ))
  | .fieldAddr s x f =>
    match P.underlying s with
    | some (.struct fields) => do
      let fd ← M.opt fields[f]?
      match ρ x, tsize P fd.type with
      | .pointer (some ⟨id, off, none⟩), some (_ + 1) => M.ret (.pointer (some ⟨id, off + fd.offset, none⟩))
      | _, _ => M.fail
    | _ => M.fail
  | .field t x f =>
    match P.underlying t with
    | some (.struct fields) => do
      let fd ← M.opt fields[f]?
      match ρ x with
      | .agg cs => M.opt (aPart P fd.type cs fd.offset)
      | _ => M.fail
    | _ => M.fail
  | .indexAddr t x ix =>
    match ρ ix with
    | .int _ i =>
      match P.underlying t, ρ x with
      | some (.slice elem), .slice (some ⟨id, off, _⟩) len _ => do
        let n ← M.opt (tsize P elem)
        if 0 ≤ i ∧ i < len then M.ret (.pointer (some ⟨id, off + i.toNat * n, none⟩)) else M.fail
      | some (.array len elem), .pointer (some ⟨id, off, none⟩) => do
        let n ← M.opt (tsize P elem)
        if 0 ≤ i ∧ i < len then M.ret (.pointer (some ⟨id, off + i.toNat * n, none⟩)) else M.fail
      | _, _ => M.fail
    | _ => M.fail
  | .index t x ix => M.opt (aIndex P t (ρ x) (ρ ix))
  | .lookup t m k ok => aLookup P t (ρ m) (ρ k) ok
  | .mapUpdate t m k v | .insert t m k v => do
    aMapUpdate P t (ρ m) (ρ k) (ρ v)
    M.ret undef
  | .mapEntry t m k => aMapEntry P t (ρ m) (ρ k)
  | .entryStore _ m s v => do
    aEntryStore (ρ m) (ρ s) (ρ v)
    M.ret undef
  | .range t x => aRange P t (ρ x)
  | .next it isString => aNext (ρ it) isString
  | .entry it => aEntry (ρ it)
  | .typeAssert x _ asserted ok => M.opt (aTypeAssert P (ρ x) asserted ok)
  | .extract t i =>
    match ρ t with
    | .tuple vs => M.opt vs[i]?
    | _ => M.fail
  | .call c =>
    match c.callee with
    | .builtin b => aBuiltin P b c.argTypes (c.args.map ρ)
    | .value f => aCall P X call (ρ f) (c.args.map ρ)
    | .invoke _ _ => M.fail
  | _ => M.fail

/-! ### Slots -/
def slot (T : Tr Value) (t : Nat) : Value := (T.get D t).getD undef

def look (T : Tr Value) : Operand → Value
  | .tmp t => slot T t
  | .const v => if gr v then v else .chan none
  | .global _ => .chan none
  | .func f => .func (.func f) #[] #[]

def put (n : Nat) (T : Tr Value) (dst : Option Tmp) (v : Value) : Option (Tr Value) :=
  match dst with
  | none => some T
  | some d =>
    match Nat.blt d n with
    | true => some (T.set D d (some v))
    | false => none

/-- is the operation wanted, as things stand? -/
def want (ops : Array Oper) (T : Tr Value) (o : Oper) : Option Bool :=
  match o.guard with
  | none => some true
  | some (j, b) =>
    match (ops[j]?).bind (·.dst) with
    | none => some false
    | some d =>
      match T.get D d with
      | some (.bool c) => some (c == b)
      | some (.chan _) => none
      | _ => some false

/-- an operation, if it is wanted -/
def step (P : Program) (X : Ext) (call : Func → FuncId → Array Value → M Value) (ops : Array Oper) (o : Oper) (T : Tr Value) : M Value := do
  match ← M.opt (want ops T o) with
  | true => evalOp P X call (look T) o
  | false => M.ret undef

/-- all operations in the order of the text -/
def steps (P : Program) (X : Ext) (call : Func → FuncId → Array Value → M Value) (ops : Array Oper) (n : Nat) : List Oper → Tr Value → M (Tr Value)
  | [], T => M.ret T
  | o :: rest, T => do
    let v ← step P X call ops o T
    let T ← M.opt (put n T o.dst v)
    steps P X call ops n rest T

/-- the same, with each operation's own masks listed -/
def stepsM (P : Program) (X : Ext) (call : Func → FuncId → Array Value → M Value) (ops : Array Oper) (n : Nat) : List Oper → Tr Value → M (Tr Value × List (Nat × Nat))
  | [], T => M.ret (T, [])
  | o :: rest, T => do
    let (v, R, W) ← meas (step P X call ops o T)
    let T ← M.opt (put n T o.dst v)
    let (T, ms) ← stepsM P X call ops n rest T
    M.ret (T, (R, W) :: ms)

/-- the operations ahead of each, by the edges that bind: the last first -/
def ahead : List Oper → List Nat → List Nat
  | [], acc => acc
  | o :: rest, acc =>
    force (o.after.toList.foldl (fun s e => if Region.binds .any e then Nat.lor s (Nat.lor (bit e.on) ((acc.reverse)[e.on]?.getD 0)) else s) 0) fun m => ahead rest (m :: acc)

def edgesBack : List Oper → Nat → Bool
  | [], _ => true
  | o :: rest, i => o.after.toList.all (fun e => !Region.binds .any e || Nat.blt e.on i) && edgesBack rest (i + 1)

structure Foot where
  o : Oper
  i : Nat
  R : Nat
  W : Nat
  pre : Nat

def disjoint (a b : Nat) : Bool := Nat.beq (Nat.land a b) 0

/-- may two operations, x ahead of y in the text, change places? -/
def apart (ops : Array Oper) (x y : Foot) : Bool :=
  Nat.testBit y.pre x.i ||
    (Oper.apart ops x.o y.o && disjoint x.W (Nat.lor y.R y.W) && disjoint x.R y.W)

def pairs (ops : Array Oper) : List Foot → Bool
  | [] => true
  | x :: rest => rest.all (apart ops x) && pairs ops rest

def feet : List Oper → List (Nat × Nat) → List Nat → Nat → List Foot
  | o :: os, (R, W) :: ms, p :: ps, i => ⟨o, i, R, W, p⟩ :: feet os ms ps (i + 1)
  | _, _, _, _ => []

def mayDraw (ops : Array Oper) (ms : List (Nat × Nat)) : Bool :=
  edgesBack ops.toList 0 && pairs ops (feet ops.toList ms (ahead ops.toList []).reverse 0)

def evalRegion (P : Program) (X : Ext) (call : Func → FuncId → Array Value → M Value) (ops : Array Oper) (draw : Bool) (n : Nat) (T : Tr Value) : M (Tr Value) :=
  match draw with
  | false => steps P X call ops n ops.toList T
  | true => do
    let (T, ms) ← stepsM P X call ops n ops.toList T
    match mayDraw ops ms with
    | true => M.ret T
    | false => M.fail

inductive Out where
  | normal
  | exit (id : Nat)
  | ret
  | goto (l : Nat)

def aResult (P : Program) (T : Tr Value) : List ResultVar → M (List Value)
  | [] => M.ret []
  | .tmp t :: rest => do
    let vs ← aResult P T rest
    M.ret (slot T t :: vs)
  | .cell a t :: rest => do
    let v ← aLoad P t (slot T a)
    let vs ← aResult P T rest
    M.ret (v :: vs)

def aResults (P : Program) (fn : Func) (T : Tr Value) : M Value := do
  match ← aResult P T fn.results.toList with
  | [v] => M.ret v
  | vs => M.ret (.tuple ⟨vs⟩)

def ofArgs : List Value → Nat → Tr Value → Tr Value
  | [], _, T => T
  | v :: rest, i, T => ofArgs rest (i + 1) (T.set D i (some v))

/-- the call of a function's body, behind an evaluator of code -/
def enter (P : Program) (E : Code → Nat → Tr Value → M (Out × Tr Value)) (fn : Func) (_ : FuncId) (args : Array Value) : M Value :=
  match fn.body with
  | some c =>
    if args.size ≤ fn.ntmps ∧ fn.ntmps < lim then do
      match ← E c fn.ntmps (ofArgs args.toList 0 .nil) with
      | (.normal, T) => aResults P fn T
      | (.ret, T) => aResults P fn T
      | _ => M.fail
    else M.fail
  | none => M.fail

/-- a scope: behind a jump to a label of it, it goes on there -/
def evalScope (E : Code → Nat → Tr Value → M (Out × Tr Value)) (c : Code) (n : Nat) : Nat → Code → Tr Value → M (Out × Tr Value)
  | 0, _, _ => M.fail
  | j + 1, cur, T => do
    match ← E cur n T with
    | (.goto l, T) =>
      match findLabel c l with
      | some rest => evalScope E c n j rest T
      | none => M.ret (.goto l, T)
    | r => M.ret r

def evalCode (P : Program) (X : Ext) : Nat → Code → Nat → Tr Value → M (Out × Tr Value)
  | 0, _, _, _ => M.fail
  | k + 1, c, n, T =>
    match c with
    | .skip => M.ret (.normal, T)
    | .label _ => M.ret (.normal, T)
    | .seq a b => do
      match ← evalCode P X k a n T with
      | (.normal, T) => evalCode P X k b n T
      | r => M.ret r
    | .cond c x y =>
      match look T c with
      | .bool true => evalCode P X k x n T
      | .bool false => evalCode P X k y n T
      | _ => M.fail
    | .block id c => do
      match ← evalCode P X k c n T with
      | (.exit id', T) => if id' = id then M.ret (.normal, T) else M.ret (.exit id', T)
      | r => M.ret r
    | .loop c => do
      match ← evalCode P X k c n T with
      | (.normal, T) => evalCode P X k (.loop c) n T
      | r => M.ret r
    | .scope c => evalScope (evalCode P X k) c n k c T
    | .goto l => M.ret (.goto l, T)
    | .exit id => M.ret (.exit id, T)
    | .ret => M.ret (.ret, T)
    | .region _ ops draw => do
      let T ← evalRegion P X (enter P (evalCode P X k)) ops draw n T
      M.ret (.normal, T)
    | _ => M.fail

def evalCall (P : Program) (X : Ext) (k : Nat) (f : FuncId) (args : Array Value) : M Value := do
  let fn ← M.opt P.funcs[f]?
  enter P (evalCode P X k) fn f args

def start : St := ⟨.nil, 0, 0, 0, 0⟩

end Go.Det
