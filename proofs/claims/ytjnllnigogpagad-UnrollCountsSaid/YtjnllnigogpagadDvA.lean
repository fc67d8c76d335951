/- The D machine: a deterministic evaluator of compiled Go code over values that are trees where nobody writes them, and abstract blocks where the running function owns them. No condition. -/
import Derived.Calls
import Derived.Orders
namespace Go.Dv

/-- Closed, immutable data. A slice is the list of its elements, an element the list of its cells. -/
inductive T where
  | bool (b : Bool)
  | int (k : IntKind) (n : Int)
  | str (s : ByteArray)
  | nilp
  | nils
  | nilm
  | nilf
  | nili
  | lst (esz : Nat) (es : List (List T))
  | imap (es : List ((Bool × List T) × (Bool × List T)))
  deriving Inhabited

/-- What a slot or a cell holds: closed data, or a place in an owned block. -/
inductive V where
  | undef
  | d (t : T)
  | ptr (b i j : Nat)
  | iptr (cells : List T) (j : Nat)
  | sl (b off len esz : Nat)
  | map (b : Nat)
  | fn (f : Nat) (caps : List V)
  | agg (cs : List V)
  | tup (vs : List V)
  | yield (b : Nat)
  | it (b : Nat) (mb : Option Nat)
  | emp
  | opq
  deriving Inhabited

abbrev V.int (n : Int) : V := .d (.int .i64 n)
abbrev V.bool (b : Bool) : V := .d (.bool b)
abbrev T.i (n : Int) : T := .int .i64 n

def V.cells : V → List V
  | .agg cs => cs
  | v => [v]

/-- May it lie in one cell? -/
def V.one : V → Bool
  | .undef => false
  | .agg _ => false
  | .tup _ => false
  | _ => true

/-- The kind of one cell that can be compared. -/
inductive SK where
  | int (k : IntKind)
  | str
  | bool
  deriving DecidableEq, Inhabited

def SK.ok : SK → T → Bool
  | .int k, .int k' _ => k == k'
  | .str, .str _ => true
  | .bool, .bool _ => true
  | _, _ => false

def kindsOk : List SK → List T → Bool
  | [], [] => true
  | k :: ks, t :: ts => k.ok t && kindsOk ks ts
  | _, _ => false

/-- The type's kind, as far as an operation asks it. -/
inductive Kd where
  | num
  | str
  | bool
  | slc
  | ptr
  | map
  | fn
  | agg (ks : List SK)
  deriving DecidableEq, Inhabited

/-- A key's type: is it a struct or an array, and what are its cells? -/
structure KK where
  agg : Bool
  ks : List SK
  deriving Inhabited

/-- What 'len' is asked of. -/
inductive LK where
  | arr (n : Nat)
  | str
  | slc
  | map
  deriving Inhabited

inductive DOpnd where
  | tmp (t : Nat)
  | const (v : V)
  deriving Inhabited

inductive DOp where
  | move (x : DOpnd)
  | pick (c a b : DOpnd)
  | alloc (zero : List V)
  | box (x : DOpnd)
  | build (zero : List V) (parts : List (Nat × Nat × DOpnd))
  | buildSlice (esz len : Nat) (zero : List V) (parts : List (Nat × DOpnd))
  | load (n : Option Nat) (a : DOpnd)
  | store (n : Nat) (a x : DOpnd)
  | nilCheck (x : DOpnd)
  | bin (op : BinOp) (kd : Kd) (x y : DOpnd)
  | un (op : UnOp) (x : DOpnd)
  | conv (k : Option IntKind) (x : DOpnd)
  | makeMap (r : Option DOpnd)
  | makeSlice (esz bytes : Nat) (zero : List V) (len cap : DOpnd)
  | slice (esz : Option Nat) (x : DOpnd) (lo hi : Option DOpnd)
  | fieldAddr (off : Nat) (x : DOpnd)
  | field (off : Nat) (n : Option Nat) (x : DOpnd)
  | indexAddr (arr : Option Nat) (esz : Nat) (x ix : DOpnd)
  | index (arr : Option (Nat × Nat × Bool)) (x ix : DOpnd)
  | lookup (kk : KK) (zero : V) (ok : Bool) (m k : DOpnd)
  | mapUpdate (kk : KK) (m k x : DOpnd)
  | extract (x : DOpnd) (ix : Nat)
  | len (k : LK) (x : DOpnd)
  | minmax (mx : Bool) (x y : DOpnd)
  | append (esz bytes : Nat) (zero : List V) (s x : DOpnd)
  | call (mode : Nat) (f : Nat) (args : List DOpnd)
  | callv (x : DOpnd) (args : List DOpnd)
  | makeFunc (f : Nat) (caps : List DOpnd)
  | range (x : DOpnd)
  | next (x : DOpnd)
  | entry (x : DOpnd)
  | cutArr (n : Nat) (x : DOpnd) (lo hi : Option DOpnd)
  | fail
  deriving Inhabited

structure DOper where
  dst : Option Nat
  op : DOp
  guard : Option (Nat × Bool)
  deriving Inhabited

inductive DCode where
  | skip
  | region (ops : List DOper)
  | regionC (ops : List DOper) (chk : List (Nat × Nat))
  | seq (a b : DCode)
  | cond (c : DOpnd) (a b : DCode)
  | block (id : Nat) (c : DCode)
  | loop (c : DCode)
  | exit (id : Nat)
  | ret
  | rangeFunc (g : DOpnd) (ps : List Nat) (asg bd : DCode)
  | fail
  deriving Inhabited

/-- How a piece of code is left. -/
inductive Ex where
  | normal
  | exit (id : Nat)
  | ret
  deriving DecidableEq

/-- How a loop over a function stands. -/
inductive LSt where
  | ready
  | busy
  | done (ex : Ex)

inductive Blk where
  | row (es : List (List V))
  | map (kvs : List ((Bool × List T) × V))
  | loop (st : LSt) (tm : List V) (ps : List Nat) (asg bd : DCode)
  | iter (mb : Option Nat) (since : Nat) (seen : Bool)

instance : Inhabited Blk := ⟨.row []⟩

abbrev Heap := Nat → Option Blk

def Heap.put (h : Heap) (b : Nat) (x : Option Blk) : Heap := fun k => if k = b then x else h k

def Heap.none : Heap := fun _ => Option.none

inductive DRes where
  | tmp (t : Nat)
  | cell (a : Nat) (n : Option Nat)
  deriving Inhabited

structure DFunc where
  ntmps : Nat
  results : List DRes
  body : DCode
  deriving Inhabited

/-! ### Values -/

/-- Are two cells of one kind equal? -/
def T.same : T → T → Bool
  | .int _ a, .int _ b => a == b
  | .bool a, .bool b => a == b
  | .str a, .str b => a == b
  | _, _ => false

def sameCells : List T → List T → Bool
  | [], [] => true
  | a :: as, b :: bs => T.same a b && sameCells as bs
  | _, _ => false

def V.data? : V → Option T
  | .d t => some t
  | _ => none

def dataCells : List V → Option (List T)
  | [] => some []
  | v :: vs =>
    match v.data? with
    | some t =>
      match dataCells vs with
      | some ts => some (t :: ts)
      | none => none
    | none => none

def intOp (op : BinOp) (k : IntKind) (a b : Int) : Option V :=
  match op with
  | .add => some (.d (.int k (k.wrap (a + b))))
  | .sub => some (.d (.int k (k.wrap (a - b))))
  | .mul => some (.d (.int k (k.wrap (a * b))))
  | .quo => if b = 0 then none else some (.d (.int k (k.wrap (a.tdiv b))))
  | .rem => if b = 0 then none else some (.d (.int k (a.tmod b)))
  | .and => some (.d (.int k (k.wrap (BitVec.ofInt k.bits a &&& BitVec.ofInt k.bits b).toNat)))
  | .or => some (.d (.int k (k.wrap (BitVec.ofInt k.bits a ||| BitVec.ofInt k.bits b).toNat)))
  | .xor => some (.d (.int k (k.wrap (BitVec.ofInt k.bits a ^^^ BitVec.ofInt k.bits b).toNat)))
  | .andNot => some (.d (.int k (k.wrap (BitVec.ofInt k.bits a &&& ~~~ (BitVec.ofInt k.bits b)).toNat)))
  | .eql => some (.bool (a == b))
  | .neq => some (.bool (a != b))
  | .lss => some (.bool (decide (a < b)))
  | .leq => some (.bool (decide (a ≤ b)))
  | .gtr => some (.bool (decide (b < a)))
  | .geq => some (.bool (decide (b ≤ a)))
  | _ => none

def strOp (op : BinOp) (a b : ByteArray) : Option V :=
  match op with
  | .add => if ((a.size + b.size : Nat) : Int) > IntKind.i64.max then none else some (.d (.str (a ++ b)))
  | .eql => some (.bool (a.toList == b.toList))
  | .neq => some (.bool (!(a.toList == b.toList)))
  | .lss => some (.bool (Op.bytesLess a.toList b.toList))
  | _ => none

/-- Is a value the nil of its kind? -/
def V.isNil (kd : Kd) (v : V) : Option Bool :=
  match kd, v with
  | .slc, .d .nils => some true
  | .slc, .d (.lst ..) => some false
  | .slc, .sl .. => some false
  | .ptr, .d .nilp => some true
  | .ptr, .ptr .. => some false
  | .ptr, .iptr .. => some false
  | .map, .d .nilm => some true
  | .map, .d (.imap _) => some false
  | .map, .map _ => some false
  | .fn, .d .nilf => some true
  | .fn, .fn .. => some false
  | _, _ => none

def eqNil (kd : Kd) (x y : V) : Option Bool :=
  match x.isNil kd, y.isNil kd with
  | some true, some b => some b
  | some false, some true => some false
  | _, _ => none

def eqOp (op : BinOp) (r : Option Bool) : Option V :=
  match op, r with
  | .eql, some b => some (.bool b)
  | .neq, some b => some (.bool (!b))
  | _, _ => none

def binV (op : BinOp) (kd : Kd) (x y : V) : Option V :=
  match kd with
  | .num =>
    match x, y with
    | .d (.int k a), .d (.int k' b) => if k = k' then intOp op k a b else none
    | _, _ => none
  | .str =>
    match x, y with
    | .d (.str a), .d (.str b) => strOp op a b
    | _, _ => none
  | .bool =>
    match x, y with
    | .d (.bool a), .d (.bool b) => eqOp op (some (a == b))
    | _, _ => none
  | .agg ks =>
    match x, y with
    | .agg xs, .agg ys =>
      match dataCells xs, dataCells ys with
      | some a, some b => if kindsOk ks a && kindsOk ks b then eqOp op (some (sameCells a b)) else none
      | _, _ => none
    | _, _ => none
  | kd => eqOp op (eqNil kd x y)

def unV (op : UnOp) (x : V) : Option V :=
  match op, x with
  | .neg, .d (.int k n) => intOp .sub k 0 n
  | .xor, .d (.int k n) => intOp .xor k (if k.signed then -1 else k.max) n
  | .not, .d (.bool b) => some (.bool (!b))
  | _, _ => none

def convV (k : Option IntKind) (x : V) : Option V :=
  match k, x with
  | some k, .d (.int _ n) => some (.d (.int k (k.wrap n)))
  | none, .d (.str s) => some (.d (.str s))
  | _, _ => none

/-- The cells that a pointer points into, and the place of the first one. -/
def ptrCells (h : Heap) : V → Option (List V × Nat)
  | .ptr b i j =>
    match h b with
    | some (.row es) =>
      match es[i]? with
      | some cs => some (cs, j)
      | none => none
    | _ => none
  | .iptr cs j => some (cs.map .d, j)
  | _ => none

def loadV (h : Heap) (n : Option Nat) (p : V) : Option V :=
  match ptrCells h p with
  | some (cs, j) =>
    match n with
    | none => cs[j]?
    | some n => if j + n ≤ cs.length then some (.agg ((cs.drop j).take n)) else none
  | none => none

def storeV (h : Heap) (n : Nat) (p x : V) : Option Heap :=
  match p with
  | .ptr b i j =>
    match h b with
    | some (.row es) =>
      match es[i]? with
      | some cs =>
        if x.cells.length = n ∧ j + n ≤ cs.length ∧ x.cells.all V.one = true then some (h.put b (some (.row (es.set i (cs.take j ++ (x.cells ++ cs.drop (j + n))))))) else none
      | none => none
    | _ => none
  | _ => none

/-- The elements of a slice whose elements have 'esz' cells. -/
def slElems (h : Heap) (esz : Nat) : V → Option (List (List V))
  | .d .nils => some []
  | .d (.lst z es) => if z = esz then some (es.map fun e => e.map .d) else none
  | .sl b off len z =>
    match h b with
    | some (.row es) => if z = esz ∧ off + len ≤ es.length then some ((es.drop off).take len) else none
    | _ => none
  | _ => none

def fieldV (off : Nat) : V → Option V
  | .ptr b i j => some (.ptr b i (j + off))
  | .iptr cs j => some (.iptr cs (j + off))
  | _ => none

def intOf? : V → Option Int
  | .d (.int _ n) => some n
  | _ => none

def indexAddrV (arr : Option Nat) (esz : Nat) (x ix : V) : Option V :=
  match intOf? ix with
  | some n =>
    match arr with
    | some len =>
      if 0 ≤ n ∧ n < len then
        match x with
        | .ptr b i j => some (.ptr b i (j + n.toNat * esz))
        | .iptr cs j => some (.iptr cs (j + n.toNat * esz))
        | _ => none
      else none
    | none =>
      match x with
      | .sl b off len z => if z = esz ∧ 0 ≤ n ∧ n < len then some (.ptr b (off + n.toNat) 0) else none
      | .d (.lst z es) =>
        if z = esz ∧ 0 ≤ n then
          match es[n.toNat]? with
          | some cs => some (.iptr cs 0)
          | none => none
        else none
      | _ => none
  | none => none

def partV (cs : List V) (off : Nat) (n : Option Nat) : Option V :=
  match n with
  | none => cs[off]?
  | some n => if off + n ≤ cs.length then some (.agg ((cs.drop off).take n)) else none

def fieldOfV (off : Nat) (n : Option Nat) : V → Option V
  | .agg cs => partV cs off n
  | _ => none

def indexV (arr : Option (Nat × Nat × Bool)) (x ix : V) : Option V :=
  match intOf? ix with
  | some n =>
    match arr, x with
    | some (len, esz, isAgg), .agg cs => if 0 ≤ n ∧ n < len then partV cs (n.toNat * esz) (if isAgg then some esz else none) else none
    | none, .d (.str s) =>
      if 0 ≤ n then
        match s[n.toNat]? with
        | some b => some (.d (.int .u8 b.toNat))
        | none => none
      else none
    | _, _ => none
  | none => none

def boundV : Option V → Nat → Option Nat
  | none, d => some d
  | some v, _ =>
    match intOf? v with
    | some n => if 0 ≤ n then some n.toNat else none
    | none => none

def sliceV (esz : Option Nat) (x : V) (lo hi : Option V) : Option V :=
  match esz, x with
  | some n, .sl b off len z =>
    match boundV lo 0, boundV hi len with
    | some l, some u => if z = n ∧ l ≤ u ∧ u ≤ len then some (.sl b (off + l) (u - l) z) else none
    | _, _ => none
  | some n, .d (.lst z es) =>
    match boundV lo 0, boundV hi es.length with
    | some l, some u => if z = n ∧ l ≤ u ∧ u ≤ es.length then some (.d (.lst z ((es.drop l).take (u - l)))) else none
    | _, _ => none
  | some _, .d .nils =>
    match boundV lo 0, boundV hi 0 with
    | some 0, some 0 => some (.d .nils)
    | _, _ => none
  | none, .d (.str s) =>
    match boundV lo 0, boundV hi s.size with
    | some l, some u => if l ≤ u ∧ u ≤ s.size then some (.d (.str (s.extract l u))) else none
    | _, _ => none
  | _, _ => none

/-- No element of an array. -/
def cutV (n : Nat) (x : V) (lo hi : Option V) : Option V :=
  match x, boundV lo 0, boundV hi n with
  | .ptr .., some 0, some 0 => some .emp
  | .iptr .., some 0, some 0 => some .emp
  | _, _, _ => none

/-- Looks a key up: 'none' where a key is not of its kind; else the value's place, if it is there. -/
def findKv {α : Type} (kk : KK) (k : List T) : List ((Bool × List T) × α) → Option (Option α)
  | [] => some none
  | (a, x) :: rest => if a.1 = kk.agg ∧ kindsOk kk.ks a.2 = true then (if sameCells k a.2 then some (some x) else findKv kk k rest) else none

def setKv (kk : KK) (k : List T) (x : V) : List ((Bool × List T) × V) → Option (List ((Bool × List T) × V))
  | [] => some [((kk.agg, k), x)]
  | (a, y) :: rest =>
    if a.1 = kk.agg ∧ kindsOk kk.ks a.2 = true then
      if sameCells k a.2 then some (((kk.agg, k), x) :: rest)
      else
        match setKv kk k x rest with
        | some r => some ((a, y) :: r)
        | none => none
    else none

def V.isAgg : V → Bool
  | .agg _ => true
  | _ => false

def ofCells : Bool × List T → V
  | (true, ts) => .agg (ts.map .d)
  | (false, t :: _) => .d t
  | (false, []) => .undef

/-- The cells of a key, if it is of its kind. -/
def keyCells (kk : KK) (k : V) : Option (List T) :=
  if k.isAgg = kk.agg then
    match dataCells k.cells with
    | some ts => if kindsOk kk.ks ts then some ts else none
    | none => none
  else none

/-- What a map holds at a key. -/
def findV (kk : KK) (h : Heap) (m : V) (k : List T) : Option (Option V) :=
  match m with
  | .d .nilm => some none
  | .d (.imap es) =>
    match findKv kk k es with
    | some (some x) => some (some (ofCells x))
    | some none => some none
    | none => none
  | .map b =>
    match h b with
    | some (.map kvs) => findKv kk k kvs
    | _ => none
  | _ => none

def lookupV (kk : KK) (h : Heap) (zero : V) (ok : Bool) (m k : V) : Option V :=
  match keyCells kk k with
  | some ts =>
    match findV kk h m ts with
    | some (some v) => some (if ok then .tup [v, .bool true] else v)
    | some none => some (if ok then .tup [zero, .bool false] else zero)
    | none => none
  | none => none

def mapUpdateV (kk : KK) (h : Heap) (m k x : V) : Option Heap :=
  match m, keyCells kk k with
  | .map b, some ts =>
    match h b with
    | some (.map kvs) =>
      match setKv kk ts x kvs with
      | some kvs' => some (h.put b (some (.map kvs')))
      | none => none
    | _ => none
  | _, _ => none

def lenV (h : Heap) (k : LK) (x : V) : Option V :=
  match k, x with
  | .arr n, _ => some (.int n)
  | .str, .d (.str s) => some (.int s.size)
  | .slc, .d .nils => some (.int 0)
  | .slc, .d (.lst _ es) => some (.int es.length)
  | .slc, .sl _ _ len _ => some (.int len)
  | .slc, .emp => some (.int 0)
  | .map, .d .nilm => some (.int 0)
  | .map, .d (.imap es) => some (.int es.length)
  | .map, .map b =>
    match h b with
    | some (.map kvs) => some (.int kvs.length)
    | _ => none
  | _, _ => none

/-- Puts the parts into the cells of a struct: each at its place, so many cells of it. -/
def fillV (ρ : DOpnd → V) : List (Nat × Nat × DOpnd) → List V → Option (List V)
  | [], cells => some cells
  | (off, size, x) :: rest, cells =>
    if (ρ x).cells.length = size ∧ off + size ≤ cells.length then fillV ρ rest (cells.take off ++ ((ρ x).cells ++ cells.drop (off + size)))
    else none

/-- Puts the parts into the elements of a slice. -/
def fillRows (ρ : DOpnd → V) (esz : Nat) : List (Nat × DOpnd) → List (List V) → Option (List (List V))
  | [], es => some es
  | (i, x) :: rest, es =>
    if (ρ x).cells.length = esz ∧ i < es.length ∧ (ρ x).cells.all V.one = true then fillRows ρ esz rest (es.set i (ρ x).cells)
    else none

def appendV (esz bytes : Nat) (h : Heap) (s x : V) (fr : Nat) : Option (V × Heap) :=
  match slElems h esz x with
  | some xs =>
    match s with
    | .d .nils =>
      if xs.length = 0 then some (.d .nils, h)
      else if xs.length * bytes ≤ 140737488355328 then some (.sl fr 0 xs.length esz, h.put fr (some (.row xs)))
      else none
    | .sl b off len z =>
      match h b with
      | some (.row es) =>
        if z = esz ∧ off + len ≤ es.length ∧ (len + xs.length) * bytes ≤ 140737488355328 then
          some (.sl fr 0 (len + xs.length) esz, (h.put b none).put fr (some (.row ((es.drop off).take len ++ xs))))
        else none
      | _ => none
    | _ => none
  | none => none

def makeSliceV (esz bytes : Nat) (zero : List V) (h : Heap) (len cap : V) (fr : Nat) : Option (V × Heap) :=
  match intOf? len, intOf? cap with
  | some l, some c =>
    if 0 ≤ l ∧ l ≤ c ∧ bytes * c ≤ 2 ^ 48 ∧ c ≤ 9223372036854775807 ∧ zero.length = esz then
      some (.sl fr 0 l.toNat esz, h.put fr (some (.row (List.replicate l.toNat zero))))
    else none
  | _, _ => none

def minmaxV (mx : Bool) (x y : V) : Option V :=
  match x, y with
  | .d (.int k a), .d (.int _ b) => some (.d (.int k (if mx then (if b > a then b else a) else (if b < a then b else a))))
  | _, _ => none

def hintOk : Option V → Bool
  | none => true
  | some v => (intOf? v).isSome

def sel (c a b : V) : Option V :=
  match c with
  | .d (.bool t) => some (if t then a else b)
  | _ => none

def notNil : V → Option V
  | .ptr b i j => some (.ptr b i j)
  | .iptr cs j => some (.iptr cs j)
  | _ => none

def extractV (ix : Nat) : V → Option V
  | .tup vs => vs[ix]?
  | _ => none

/-- An iterator over a map that has one entry at most. -/
def rangeV (h : Heap) (x : V) (fr : Nat) : Option (V × Heap) :=
  match x with
  | .d .nilm => some (.it fr none, h.put fr (some (.iter none 0 false)))
  | .map b =>
    match h b with
    | some (.map kvs) => some (.it fr (some b), h.put fr (some (.iter (some b) kvs.length false)))
    | _ => none
  | _ => none

def nextV (h : Heap) (x : V) : Option (V × Heap) :=
  match x with
  | .it b none =>
    match h b with
    | some (.iter none _ _) => some (.tup [.bool false], h)
    | _ => none
  | .it b (some mb) =>
    match h b with
    | some (.iter (some mb') since seen) =>
      match h mb with
      | some (.map kvs) =>
        if mb' = mb ∧ kvs.length = since then
          match kvs with
          | [] => some (.tup [.bool false], h)
          | [e] => if seen then some (.tup [.bool false], h) else some (.tup [.bool true, ofCells e.1, e.2], h.put b (some (.iter (some mb) since true)))
          | _ => none
        else none
      | _ => none
    | _ => none
  | _ => none

def entryV (h : Heap) (x : V) : Option V :=
  match x with
  | .it b (some mb) =>
    match h b with
    | some (.iter (some mb') since true) =>
      match h mb with
      | some (.map [e]) => if mb' = mb ∧ since = 1 then some (.tup [ofCells e.1, e.2]) else none
      | _ => none
    | _ => none
  | _ => none

/-- 'v' with the heap as it is. -/
def keepH (h : Heap) (v : Option V) : Option (V × Heap) :=
  match v with
  | some v => some (v, h)
  | none => none

def setH (h : Option Heap) : Option (V × Heap) :=
  match h with
  | some h => some (.undef, h)
  | none => none

/-- One operation that calls no function: what it yields, and the heap behind it. 'fr': the block that it may make. -/
def evalOp (op : DOp) (ρ : DOpnd → V) (h : Heap) (fr : Nat) : Option (V × Heap) :=
  match op with
  | .move x => some (ρ x, h)
  | .pick c a b => keepH h (sel (ρ c) (ρ a) (ρ b))
  | .alloc zero => some (.ptr fr 0 0, h.put fr (some (.row [zero])))
  | .box x => if (ρ x).cells.all V.one then some (.ptr fr 0 0, h.put fr (some (.row [(ρ x).cells]))) else none
  | .build zero parts => keepH h ((fillV ρ parts zero).map .agg)
  | .buildSlice esz len zero parts =>
    match fillRows ρ esz parts (List.replicate len zero) with
    | some es => some (.sl fr 0 len esz, h.put fr (some (.row es)))
    | none => none
  | .load n a => keepH h (loadV h n (ρ a))
  | .store n a x => setH (storeV h n (ρ a) (ρ x))
  | .nilCheck x => keepH h (notNil (ρ x))
  | .bin op kd x y => keepH h (binV op kd (ρ x) (ρ y))
  | .un op x => keepH h (unV op (ρ x))
  | .conv k x => keepH h (convV k (ρ x))
  | .makeMap r => if hintOk (r.map ρ) then some (.map fr, h.put fr (some (.map []))) else none
  | .makeSlice esz bytes zero len cap => makeSliceV esz bytes zero h (ρ len) (ρ cap) fr
  | .slice esz x lo hi => keepH h (sliceV esz (ρ x) (lo.map ρ) (hi.map ρ))
  | .fieldAddr off x => keepH h (fieldV off (ρ x))
  | .field off n x => keepH h (fieldOfV off n (ρ x))
  | .indexAddr arr esz x ix => keepH h (indexAddrV arr esz (ρ x) (ρ ix))
  | .index arr x ix => keepH h (indexV arr (ρ x) (ρ ix))
  | .lookup kk zero ok m k => keepH h (lookupV kk h zero ok (ρ m) (ρ k))
  | .mapUpdate kk m k x => setH (mapUpdateV kk h (ρ m) (ρ k) (ρ x))
  | .extract x ix => keepH h (extractV ix (ρ x))
  | .len k x => keepH h (lenV h k (ρ x))
  | .minmax mx x y => keepH h (minmaxV mx (ρ x) (ρ y))
  | .append esz bytes _ s x => appendV esz bytes h (ρ s) (ρ x) fr
  | .makeFunc f caps => some (.fn f (caps.map ρ), h)
  | .range x => rangeV h (ρ x) fr
  | .next x => nextV h (ρ x)
  | .entry x => keepH h (entryV h (ρ x))
  | .cutArr n x lo hi => keepH h (cutV n (ρ x) (lo.map ρ) (hi.map ρ))
  | .call .. | .callv .. | .fail => none

/-! ### Freezing: what a function hands back is closed data -/

def freezeList {α β : Type} (f : α → Option β) : List α → Option (List β)
  | [] => some []
  | x :: xs =>
    match f x with
    | some y =>
      match freezeList f xs with
      | some ys => some (y :: ys)
      | none => none
    | none => none

def freezeT (h : Heap) : Nat → V → Option T
  | _, .d t => some t
  | n + 1, .sl b off len z =>
    match h b with
    | some (.row es) =>
      if off + len ≤ es.length then
        match freezeList (freezeList (freezeT h n)) ((es.drop off).take len) with
        | some ts => some (.lst z ts)
        | none => none
      else none
    | _ => none
  | n + 1, .map b =>
    match h b with
    | some (.map kvs) =>
      match freezeList (fun kv : (Bool × List T) × V => (freezeList (freezeT h n) kv.2.cells).map fun x => (kv.1, (kv.2.isAgg, x))) kvs with
      | some ts => some (.imap ts)
      | none => none
    | _ => none
  | _, _ => none

def depth : Nat := 12

def freezeLeaf (h : Heap) (v : V) : Option V :=
  match freezeT h depth v with
  | some t => some (.d t)
  | none => none

def freezeAgg (h : Heap) (v : V) : Option V :=
  match v with
  | .agg cs =>
    match freezeList (freezeLeaf h) cs with
    | some ts => some (.agg ts)
    | none => none
  | v => freezeLeaf h v

def freezeV (h : Heap) (v : V) : Option V :=
  match v with
  | .tup vs =>
    match freezeList (freezeAgg h) vs with
    | some ts => some (.tup ts)
    | none => none
  | v => freezeAgg h v

/-- Lending: what a function that only reads is handed. A pointer becomes a pointer to immutable cells. -/
def lendLeaf (h : Heap) (v : V) : Option V :=
  match v with
  | .ptr b i j =>
    match h b with
    | some (.row es) =>
      match es[i]? with
      | some cs =>
        match freezeList (freezeT h depth) cs with
        | some ts => some (.iptr ts j)
        | none => none
      | none => none
    | _ => none
  | .iptr cs j => some (.iptr cs j)
  | v => freezeLeaf h v

def lendV (h : Heap) (v : V) : Option V :=
  match v with
  | .agg cs =>
    match freezeList (lendLeaf h) cs with
    | some ts => some (.agg ts)
    | none => none
  | v => lendLeaf h v

def V.isData : V → Bool
  | .d _ => true
  | _ => false

/-- Closed: no block, no pointer. -/
def V.closed : V → Bool
  | .d _ => true
  | .agg cs => cs.all V.isData
  | _ => false

def V.isScalar : V → Bool
  | .d (.lst ..) => false
  | .d (.imap _) => false
  | .d _ => true
  | _ => false

def V.flatAgg : V → Bool
  | .agg cs => cs.all V.isScalar
  | v => v.isScalar

/-- Nothing but numbers and their like. -/
def V.flat : V → Bool
  | .tup vs => vs.all V.flatAgg
  | v => v.flatAgg

/-! ### Code -/

structure St where
  tm : List V
  hp : Heap
  nx : Nat

def evalOpnd (tm : List V) : DOpnd → V
  | .tmp t => tm.getD t .undef
  | .const v => v

def putSlot (tm : List V) (dst : Option Nat) (v : V) : List V :=
  match dst with
  | some d => tm.set d v
  | none => tm

/-- What is called: a function, or a round of a loop over a function. -/
inductive Tgt where
  | fn (f : Nat)
  | yd (b : Nat)

abbrev Caller := Tgt → List V → Heap → Nat → Option (V × Heap × Nat)

/-- A call of a function that is told to be pure: its arguments closed or lent, its own heap empty. -/
def pcall (cl : Caller) (f : Nat) (args : List V) : Option V :=
  match cl (.fn f) args Heap.none 0 with
  | some (v, h, _) => freezeV h v
  | none => none

/-- Mode 2: closed arguments alone; mode 1: others are lent, and the result holds numbers alone then. -/
def callPure (cl : Caller) (mode : Nat) (h : Heap) (f : Nat) (args : List V) : Option V :=
  if args.all V.closed then pcall cl f args
  else if mode = 1 then
    match freezeList (lendV h) args with
    | some as =>
      match pcall cl f as with
      | some v => if v.flat then some v else none
      | none => none
    | none => none
  else none

def wanted (g : Option (Nat × Bool)) (tm : List V) : Bool :=
  match g with
  | none => true
  | some (t, want) =>
    match tm[t]? with
    | some (.d (.bool b)) => b == want
    | _ => false

def stepOp (cl : Caller) (fr : Nat) (o : DOper) (s : St) : Option St :=
  if wanted o.guard s.tm then
    match o.op with
    | .call mode f args =>
      if mode = 0 then
        match cl (.fn f) (args.map (evalOpnd s.tm)) s.hp s.nx with
        | some (v, h, n) => some { tm := putSlot s.tm o.dst v, hp := h, nx := n }
        | none => none
      else
        match callPure cl mode s.hp f (args.map (evalOpnd s.tm)) with
        | some v => some { s with tm := putSlot s.tm o.dst v }
        | none => none
    | .callv x args =>
      match evalOpnd s.tm x with
      | .fn f caps =>
        match cl (.fn f) (args.map (evalOpnd s.tm) ++ caps) s.hp s.nx with
        | some (v, h, n) => some { tm := putSlot s.tm o.dst v, hp := h, nx := n }
        | none => none
      | .yield b =>
        match cl (.yd b) (args.map (evalOpnd s.tm)) s.hp s.nx with
        | some (v, h, n) => some { tm := putSlot s.tm o.dst v, hp := h, nx := n }
        | none => none
      | _ => none
    | op =>
      match evalOp op (evalOpnd s.tm) s.hp fr with
      | some (v, h) => some { s with tm := putSlot s.tm o.dst v, hp := h }
      | none => none
  else some { s with tm := putSlot s.tm o.dst .undef }

def runOps (cl : Caller) (base : Nat) : List DOper → St → Option St
  | [], s => some s
  | o :: rest, s =>
    match stepOp cl base o s with
    | some s => runOps cl (base + 1) rest s
    | none => none

/-- The owned block that a value names. -/
def V.key : V → List Nat
  | .it b none => [b]
  | .it b (some mb) => [b, mb]
  | .ptr b _ _ => [b]
  | .sl b _ _ _ => [b]
  | .map b => [b]
  | _ => []

/-- The blocks that were there, and that an operation reads or writes. -/
def DOp.keys (ρ : DOpnd → V) : DOp → List Nat
  | .load _ a => (ρ a).key
  | .store _ a _ => (ρ a).key
  | .lookup _ _ _ m _ => (ρ m).key
  | .mapUpdate _ m _ _ => (ρ m).key
  | .len .map x => (ρ x).key
  | .append _ _ _ s x => (ρ s).key ++ (ρ x).key
  | .range x => (ρ x).key
  | .next x => (ρ x).key
  | .entry x => (ρ x).key
  | _ => []

def disjoint (a b : List Nat) : Bool := a.all fun x => !b.contains x

/-- 0: it neither reads nor writes the heap; 1: it makes a block; 2: it reads what it is handed (and may make a block); 3: it writes what it is handed; 4: it may read all; 5: it may write all. -/
def DOp.cls : DOp → Nat
  | .alloc _ | .box _ | .buildSlice .. | .makeMap _ | .makeSlice .. => 1
  | .load .. | .lookup .. | .len .map _ | .range _ | .entry _ => 2
  | .append _ _ _ (.const (.d .nils)) _ => 2
  | .store .. | .mapUpdate .. | .append .. | .next _ => 3
  | .call 0 _ _ => 5
  | .call 1 _ _ => 4
  | .call _ _ _ => 0
  | .callv .. => 5
  | _ => 0

def stepKeys (d : DOper) (tm : List V) : List Nat := if wanted d.guard tm then d.op.keys (evalOpnd tm) else []

def Heap.without (h : Heap) (M : List Nat) : Heap := fun k => if M.contains k then Option.none else h k

/-- What a call is kept from: the blocks that it must not see, and those that it must leave as they are. -/
abbrev Mask := List Nat × List Nat

def keptOk (M : Mask) (h h' : Heap) : Prop := ∀ κ, κ ∈ M.2 → κ ∈ M.1 ∨ (h κ ≠ Option.none ∧ h' κ = h κ)

open Classical in
/-- A call that does not see some of the blocks, and leaves others as they are. -/
noncomputable def maskCl (cl : Caller) (M : Mask) : Caller :=
  match M with
  | ([], []) => cl
  | M => fun f args h nx =>
    if M.1.all (fun k => Nat.blt k nx) then
      match cl f args (h.without M.1) nx with
      | some (v, h', nx') => if keptOk M h h' then some (v, (fun k => if M.1.contains k then h k else h' k), nx') else none
      | none => none
    else none

/-- The operand that an operation's result points where it points. -/
def DOp.src : DOp → Option DOpnd
  | .move x => some x
  | .nilCheck x => some x
  | .fieldAddr _ x => some x
  | .indexAddr _ _ x _ => some x
  | _ => none

def keyAt (kt : Nat → List Nat) : DOpnd → List Nat
  | .tmp t => kt t
  | .const v => v.key

/-- The blocks that the slots will name behind some operations, as far as that can be told ahead of them. -/
def aheadK : List DOper → (Nat → List Nat) → Nat → List Nat
  | [], kt => kt
  | o :: r, kt => aheadK r fun t =>
    match o.dst with
    | some d => if t = d then (match o.op.src with | some x => keyAt kt x | none => []) else kt t
    | none => kt t

def keysAt (kt : Nat → List Nat) : DOp → List Nat
  | .load _ a => keyAt kt a
  | .store _ a _ => keyAt kt a
  | .lookup _ _ _ m _ => keyAt kt m
  | .mapUpdate _ m _ _ => keyAt kt m
  | .len .map x => keyAt kt x
  | .append _ _ _ s x => keyAt kt s ++ keyAt kt x
  | .range x => keyAt kt x
  | .next x => keyAt kt x
  | .entry x => keyAt kt x
  | _ => []

def aheadKeys (ops : List DOper) (k j : Nat) (kt : Nat → List Nat) : List Nat := keysAt (aheadK ((ops.drop k).take (j - k)) kt) (ops.getD j default).op

/-- Does it read alone? -/
def DOp.reads (op : DOp) : Bool := Nat.beq op.cls 2

/-- The blocks that a call must not see, and those that it must leave alone: of the operations that may come ahead of it and behind it. -/
def maskOf (ops : List DOper) (chk : List (Nat × Nat)) (base k : Nat) (tm : List V) : Mask :=
  if (ops.getD k default).op.cls = 5 then
    (chk.flatMap fun ij =>
      if ij.1 = k then (if (ops.getD ij.2 default).op.reads then [] else aheadKeys ops k ij.2 (fun t => (tm.getD t .undef).key)) ++ [base + ij.2]
      else if ij.2 = k then (if (ops.getD ij.1 default).op.reads then [] else stepKeys (ops.getD ij.1 default) tm) ++ [base + ij.1] else [],
    chk.flatMap fun ij =>
      if ij.1 = k then (if (ops.getD ij.2 default).op.reads then aheadKeys ops k ij.2 (fun t => (tm.getD t .undef).key) else [])
      else if ij.2 = k then (if (ops.getD ij.1 default).op.reads then stepKeys (ops.getD ij.1 default) tm else []) else [])
  else ([], [])

/-- The run in the text's order; of each operation the blocks that it is handed and those that it was kept from. -/
noncomputable def runC (cl : Caller) (ops : List DOper) (chk : List (Nat × Nat)) (base : Nat) : Nat → List DOper → St → Option (St × List (List Nat × Mask))
  | _, [], s => some (s, [])
  | k, o :: rest, s =>
    match stepOp (maskCl cl (maskOf ops chk base k s.tm)) (base + k) o s with
    | some s1 =>
      match runC cl ops chk base (k + 1) rest s1 with
      | some (s', l) => some (s', (stepKeys o s.tm, maskOf ops chk base k s.tm) :: l)
      | none => none
    | none => none

/-- Is a call kept from what another operation is handed? -/
def keptFrom (op : DOp) (keys : List Nat) (M : Mask) : Bool := keys.all fun κ => M.1.contains κ || (op.reads && M.2.contains κ)

def pairOk (ops : List DOper) (l : List (List Nat × Mask)) (ij : Nat × Nat) : Bool :=
  if (ops.getD ij.1 default).op.cls = 5 then keptFrom (ops.getD ij.2 default).op (l.getD ij.2 ([], ([], []))).1 (l.getD ij.1 ([], ([], []))).2
  else if (ops.getD ij.2 default).op.cls = 5 then keptFrom (ops.getD ij.1 default).op (l.getD ij.1 ([], ([], []))).1 (l.getD ij.2 ([], ([], []))).2
  else disjoint (l.getD ij.1 ([], ([], []))).1 (l.getD ij.2 ([], ([], []))).1

abbrev Runner := St → Option (Ex × St)

def loopN (body : Runner) : Nat → Runner
  | 0, _ => none
  | n + 1, s =>
    match body s with
    | some (.normal, s') => loopN body n s'
    | r => r

noncomputable def exec (cl : Caller) (lp : Runner → Runner) : DCode → Runner
  | .skip, s => some (.normal, s)
  | .region ops, s =>
    match runOps cl s.nx ops { s with nx := s.nx + ops.length } with
    | some s => some (.normal, s)
    | none => none
  | .regionC ops chk, s =>
    match runC cl ops chk s.nx 0 ops { s with nx := s.nx + ops.length } with
    | some (s', l) => if chk.all (pairOk ops l) then some (.normal, s') else none
    | none => none
  | .seq a b, s =>
    match exec cl lp a s with
    | some (.normal, s) => exec cl lp b s
    | r => r
  | .cond c a b, s =>
    match evalOpnd s.tm c with
    | .d (.bool true) => exec cl lp a s
    | .d (.bool false) => exec cl lp b s
    | _ => none
  | .block id c, s =>
    match exec cl lp c s with
    | some (.exit i, s) => if i = id then some (.normal, s) else some (.exit i, s)
    | r => r
  | .loop c, s => lp (exec cl lp c) s
  | .exit id, s => some (.exit id, s)
  | .ret, s => some (.ret, s)
  | .rangeFunc g ps asg bd, s =>
    match evalOpnd s.tm g with
    | .fn f caps =>
      match cl (.fn f) (.yield s.nx :: caps) (s.hp.put s.nx (some (.loop .ready s.tm ps asg bd))) (s.nx + 1) with
      | some (_, h, n) =>
        match h s.nx with
        | some (.loop .ready ..) => some (.normal, { s with hp := h.put s.nx none, nx := n })
        | some (.loop (.done ex) ..) => some (ex, { s with hp := h.put s.nx none, nx := n })
        | _ => none
      | none => none
    | _ => none
  | .fail, _ => none

def resV (h : Heap) (tm : List V) : DRes → Option V
  | .tmp t => some (tm.getD t .undef)
  | .cell a n => loadV h n (tm.getD a .undef)

def tupOf : List V → V
  | [v] => v
  | vs => .tup vs

def finish (fn : DFunc) (r : Option (Ex × St)) : Option (V × Heap × Nat) :=
  match r with
  | some (.exit _, _) => none
  | some (_, s) =>
    match freezeList (resV s.hp s.tm) fn.results with
    | some vs => some (tupOf vs, s.hp, s.nx)
    | none => none
  | none => none

abbrev Funcs := Nat → Option DFunc

def enter (fn : DFunc) (args : List V) (h : Heap) (nx : Nat) : St :=
  { tm := args ++ List.replicate (fn.ntmps - args.length) .undef, hp := h, nx := nx }

/-- The slots of a round: those of the loop, with what was yielded. -/
def setAll : List Nat → List V → List V → List V
  | p :: ps, x :: xs, tm => setAll ps xs (tm.set p x)
  | _, _, tm => tm

/-- The end of a round: off the body's end the loop goes on; else it has a jump that is pending. -/
def endRd (b : Nat) (r : Option (Ex × St)) : Option (V × Heap × Nat) :=
  match r with
  | some (ex, s) =>
    match s.hp b with
    | some (.loop .busy tm ps asg bd) =>
      match ex with
      | .normal => some (.bool true, s.hp.put b (some (.loop .ready tm ps asg bd)), s.nx)
      | ex => some (.bool false, s.hp.put b (some (.loop (.done ex) tm ps asg bd)), s.nx)
    | _ => none
  | none => none

/-- The body of a round, behind the assignments to the loop's left sides. -/
def beginRd (b : Nat) (body : Runner) (r : Option (Ex × St)) : Option (V × Heap × Nat) :=
  match r with
  | some (.normal, s) =>
    match s.hp b with
    | some (.loop .ready tm ps asg bd) => endRd b (body { s with hp := s.hp.put b (some (.loop .busy tm ps asg bd)) })
    | _ => none
  | _ => none

def round (b : Nat) (ex : DCode → Runner) (args : List V) (h : Heap) (nx : Nat) : Option (V × Heap × Nat) :=
  match h b with
  | some (.loop .ready tm ps asg bd) =>
    if args.length = ps.length then beginRd b (ex bd) (ex asg { tm := setAll ps args tm, hp := h, nx := nx }) else none
  | _ => none

noncomputable def run (fs : Funcs) : Nat → Caller
  | 0 => fun _ _ _ _ => none
  | n + 1 => fun t args h nx =>
    match t with
    | .fn f =>
      match fs f with
      | some fn => finish fn (exec (run fs n) (fun b => loopN b n) fn.body (enter fn args h nx))
      | none => none
    | .yd b => round b (exec (run fs n) (fun b => loopN b n)) args h nx

end Go.Dv
