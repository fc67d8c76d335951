/- The compiler from the model's code to the D machine's code: types are looked up once, regions that draw their order are checked to give the same at every order. No condition. -/
import Derived.Test.YtjnllnigogpagadDvA
namespace Go.Dv

def leafV : Value → Option V
  | .bool b => some (.d (.bool b))
  | .int k n => some (.d (.int k n))
  | .string s => some (.d (.str s))
  | .pointer none => some (.d .nilp)
  | .slice none 0 0 => some (.d .nils)
  | .map none => some (.d .nilm)
  | .nilFunc => some (.d .nilf)
  | .nilIface => some (.d .nili)
  | _ => none

def constV : Value → Option V
  | .agg cs =>
    match freezeList leafV cs.toList with
    | some vs => some (.agg vs)
    | none => none
  | v => leafV v

def compOpnd : Operand → Option DOpnd
  | .tmp t => some (.tmp t)
  | .const v => (constV v).map .const
  | .func f => some (.const (.fn f []))
  | .global _ => none

def compOpnds : List Operand → Option (List DOpnd)
  | [] => some []
  | x :: xs => do
    let y ← compOpnd x
    let ys ← compOpnds xs
    some (y :: ys)

def szTy (P : Program) (t : TypeId) : Option Nat := (P.info? t).map (·.size)
def bytesTy (P : Program) (t : TypeId) : Option Nat := (P.info? t).map (·.bytes)

def zeroTy (P : Program) (t : TypeId) : Option V :=
  match P.info? t with
  | some i =>
    match i.zero with
    | some z => constV z
    | none => none
  | none => none

def aggTy (P : Program) (t : TypeId) : Option Bool :=
  match P.underlying t with
  | some (.struct _) => some true
  | some (.array _ _) => some true
  | some _ => some false
  | none => none

/-- How many cells a load of the type takes: 'none' is one cell that is no struct. -/
def loadTy (P : Program) (t : TypeId) : Option (Option Nat) :=
  match aggTy P t, szTy P t with
  | some true, some n => some (some n)
  | some false, some _ => some none
  | _, _ => none

/-- The cells' kinds of the fields that lie side by side from 'off' on; 'none': there are others. -/
def flatFields (P : Program) (f : TypeId → Option (List SK)) : Nat → List Field → Option (List SK)
  | _, [] => some []
  | off, x :: rest =>
    if x.name != "_" && x.offset == off then
      match f x.type with
      | some ks =>
        if szTy P x.type = some ks.length then
          match flatFields P f (off + ks.length) rest with
          | some r => some (ks ++ r)
          | none => none
        else none
      | none => none
    else none

def repKinds (ks : List SK) : Nat → List SK
  | 0 => []
  | n + 1 => ks ++ repKinds ks n

/-- The cells' kinds of a type whose equality is the equality of its cells. -/
def flatTy (P : Program) : Nat → TypeId → Option (List SK)
  | 0, _ => none
  | d + 1, t =>
    match P.underlying t with
    | some .bool => some [.bool]
    | some (.int k) => some [.int k]
    | some .string => some [.str]
    | some (.struct fs) => if P.stoodInHeld t then none else flatFields P (flatTy P d) 0 fs.toList
    | some (.array n e) =>
      match flatTy P d e with
      | some ks => if szTy P e = some ks.length then some (repKinds ks n) else none
      | none => none
    | _ => none

def keyTy (P : Program) (t : TypeId) : Option KK :=
  match flatTy P 20 t, aggTy P t with
  | some ks, some a => some ⟨a, ks⟩
  | _, _ => none

def kdTy (P : Program) (t : TypeId) : Option Kd :=
  match P.underlying t with
  | some (.int _) => some .num
  | some .string => some .str
  | some .bool => some .bool
  | some (.slice _) => some .slc
  | some (.pointer _) => some .ptr
  | some (.map _ _) => some .map
  | some (.func _ _ _) => some .fn
  | some (.struct _) => if P.eqGuardType P.depth t then none else (flatTy P 20 t).map .agg
  | some (.array _ _) => if P.eqGuardType P.depth t then none else (flatTy P 20 t).map .agg
  | _ => none

def fieldTy (P : Program) (s : TypeId) (f : Nat) : Option Field :=
  match P.underlying s with
  | some (.struct fields) => fields[f]?
  | _ => none

def elemTy (P : Program) (t : TypeId) : Option TypeId :=
  match P.underlying t with
  | some (.slice e) => some e
  | _ => none

/-- Where the parts of a struct or an array lie: the first cell, how many. -/
def placeOf (P : Program) (t : TypeId) (i : Nat) : Option (Nat × Nat) :=
  match P.underlying t with
  | some (.struct fields) =>
    match fields[i]? with
    | some f => (szTy P f.type).map fun n => (f.offset, n)
    | none => none
  | some (.array _ e) => (szTy P e).map fun n => (i * n, n)
  | _ => none

def compParts (P : Program) (t : TypeId) : List (Nat × Operand) → Option (List (Nat × Nat × DOpnd))
  | [] => some []
  | (i, x) :: rest => do
    let y ← compOpnd x
    let p ← placeOf P t i
    let r ← compParts P t rest
    some ((p.1, p.2, y) :: r)

def compSliceParts : List (Nat × Operand) → Option (List (Nat × DOpnd))
  | [] => some []
  | (i, x) :: rest => do
    let y ← compOpnd x
    let r ← compSliceParts rest
    some ((i, y) :: r)

def compOpt : Option Operand → Option (Option DOpnd)
  | none => some none
  | some x => (compOpnd x).map some

def compCall (P : Program) (pure : Nat → Bool) (c : Call) : Option DOp := do
  match c.callee with
  | .value (.func f) =>
    let fn ← P.funcs[f]?
    if fn.name == "runtime.NumGoroutine" || fn.body.isNone then none
    let args ← compOpnds c.args.toList
    some (.call (if pure f then 1 else 0) f args)
  | .value (.tmp t) =>
    let args ← compOpnds c.args.toList
    some (.callv (.tmp t) args)
  | .builtin .len =>
    match c.args.toList, c.argTypes.toList with
    | [x], [t] =>
      let y ← compOpnd x
      match P.underlying t with
      | some .string => some (.len .str y)
      | some (.slice _) => some (.len .slc y)
      | some (.map _ _) => some (.len .map y)
      | some (.array n _) => some (.len (.arr n) y)
      | _ => none
    | _, _ => none
  | .builtin .max =>
    match c.args.toList with
    | [x, y] =>
      let x ← compOpnd x
      let y ← compOpnd y
      some (.minmax true x y)
    | _ => none
  | .builtin .min =>
    match c.args.toList with
    | [x, y] =>
      let x ← compOpnd x
      let y ← compOpnd y
      some (.minmax false x y)
    | _ => none
  | .builtin .append =>
    match c.args.toList, c.argTypes.toList with
    | [s, x], [t, u] =>
      let e ← elemTy P t
      let _ ← elemTy P u
      let esz ← szTy P e
      let bytes ← bytesTy P e
      let zero ← zeroTy P e
      let s ← compOpnd s
      let x ← compOpnd x
      if zero.cells.length = esz ∧ 0 < bytes ∧ 0 < esz then some (.append esz bytes zero.cells s x) else none
    | _, _ => none
  | _ => none

def compOp0 (P : Program) (pure : Nat → Bool) (o : Op) : Option DOp := do
  match o with
  | .move x => some (.move (← compOpnd x))
  | .assign x => some (.move (← compOpnd x))
  | .pick c a b => some (.pick (← compOpnd c) (← compOpnd a) (← compOpnd b))
  | .alloc t =>
    let z ← zeroTy P t
    if z.cells.all V.one then some (.alloc z.cells) else none
  | .box _ x => some (.box (← compOpnd x))
  | .build t parts =>
    let zero ← zeroTy P t
    let ps ← compParts P t parts.toList
    match P.underlying t with
    | some (.struct fields) =>
      let _ ← fields.toList.mapM (fun f => (P.info? f.type).map fun i => (f.offset, i.size))
      some (.build zero.cells ps)
    | some (.array _ e) =>
      let _ ← szTy P e
      some (.build zero.cells ps)
    | _ => none
  | .buildSlice t len parts =>
    let e ← elemTy P t
    let esz ← szTy P e
    let zero ← zeroTy P e
    let ps ← compSliceParts parts.toList
    if len * esz ≤ 2 ^ 24 ∧ zero.cells.length = esz ∧ 0 < esz ∧ zero.cells.all V.one = true then some (.buildSlice esz len zero.cells ps) else none
  | .load t a => some (.load (← loadTy P t) (← compOpnd a))
  | .store t a x => some (.store (← szTy P t) (← compOpnd a) (← compOpnd x))
  | .nilCheck x => some (.nilCheck (← compOpnd x))
  | .binOp op t x y _ =>
    match op with
    | .shl => none
    | .shr => none
    | op => some (.bin op (← kdTy P t) (← compOpnd x) (← compOpnd y))
  | .unOp op _ x => some (.un op (← compOpnd x))
  | .convert src dst x =>
    match P.underlying src, P.underlying dst with
    | some (.int _), some (.int k) => some (.conv (some k) (← compOpnd x))
    | some .string, some .string => some (.conv none (← compOpnd x))
    | _, _ => none
  | .makeMap t r =>
    match P.underlying t with
    | some (.map _ _) => some (.makeMap (← compOpt r))
    | _ => none
  | .makeSlice t l c =>
    let e ← elemTy P t
    let esz ← szTy P e
    let bytes ← bytesTy P e
    let zero ← zeroTy P e
    if 0 < esz ∧ zero.cells.all V.one = true then some (.makeSlice esz bytes zero.cells (← compOpnd l) (← compOpnd c)) else none
  | .slice t x lo hi none =>
    match P.underlying t with
    | some .string => some (.slice none (← compOpnd x) (← compOpt lo) (← compOpt hi))
    | some (.slice e) =>
      let n ← szTy P e
      some (.slice (some n) (← compOpnd x) (← compOpt lo) (← compOpt hi))
    | some (.pointer arr) =>
      match P.underlying arr with
      | some (.array n e) =>
        let _ ← szTy P e
        some (.cutArr n (← compOpnd x) (← compOpt lo) (← compOpt hi))
      | _ => none
    | some (.array n e) =>
      let _ ← szTy P e
      some (.cutArr n (← compOpnd x) (← compOpt lo) (← compOpt hi))
    | _ => none
  | .fieldAddr s x f =>
    let f ← fieldTy P s f
    let n ← szTy P f.type
    if n = 0 then none else some (.fieldAddr f.offset (← compOpnd x))
  | .field s x f =>
    let f ← fieldTy P s f
    some (.field f.offset (← loadTy P f.type) (← compOpnd x))
  | .indexAddr t x ix =>
    match P.underlying t with
    | some (.array len e) => some (.indexAddr (some len) (← szTy P e) (← compOpnd x) (← compOpnd ix))
    | some (.slice e) => some (.indexAddr none (← szTy P e) (← compOpnd x) (← compOpnd ix))
    | _ => none
  | .index t x ix =>
    match P.underlying t with
    | some (.array len e) => some (.index (some (len, ← szTy P e, ← aggTy P e)) (← compOpnd x) (← compOpnd ix))
    | some .string => some (.index none (← compOpnd x) (← compOpnd ix))
    | _ => none
  | .lookup t m k ok =>
    match P.underlying t with
    | some (.map kt e) => some (.lookup (← keyTy P kt) (← zeroTy P e) ok (← compOpnd m) (← compOpnd k))
    | _ => none
  | .mapUpdate t m k x =>
    match P.underlying t with
    | some (.map kt _) => some (.mapUpdate (← keyTy P kt) (← compOpnd m) (← compOpnd k) (← compOpnd x))
    | _ => none
  | .extract x ix => some (.extract (← compOpnd x) ix)
  | .makeFunc (.func f) first captured =>
    if first.isEmpty then some (.makeFunc f (← compOpnds captured.toList)) else none
  | .call c => compCall P pure c
  | .range t x =>
    match P.underlying t with
    | some (.map _ _) => some (.range (← compOpnd x))
    | _ => none
  | .next x false => some (.next (← compOpnd x))
  | .entry x => some (.entry (← compOpnd x))
  | _ => none

/-- What is not served becomes an operation that has no run. -/
def compOp (P : Program) (pure : Nat → Bool) (o : Op) : Option DOp :=
  match compOp0 P pure o with
  | some d => some d
  | none => some .fail

/-! ### Regions -/

def DOp.makes : DOp → Bool
  | .alloc _ | .box _ | .buildSlice .. | .makeMap _ | .makeSlice .. | .append .. | .range _ => true
  | _ => false

def DOpnd.slots : DOpnd → List Nat
  | .tmp t => [t]
  | .const _ => []

def slotsOf (xs : List DOpnd) : List Nat := xs.flatMap DOpnd.slots

def DOp.uses : DOp → List Nat
  | .move x | .box x | .load _ x | .nilCheck x | .un _ x | .conv _ x | .fieldAddr _ x | .field _ _ x | .extract x _ | .len _ x | .range x | .next x | .entry x => x.slots
  | .pick c a b => slotsOf [c, a, b]
  | .alloc _ | .fail => []
  | .makeMap r => slotsOf r.toList
  | .build _ ps => slotsOf (ps.map (·.2.2))
  | .buildSlice _ _ _ ps => slotsOf (ps.map (·.2))
  | .store _ a x | .bin _ _ a x | .minmax _ a x | .makeSlice _ _ _ a x | .indexAddr _ _ a x | .index _ a x | .lookup _ _ _ a x | .append _ _ _ a x => slotsOf [a, x]
  | .slice _ x lo hi => slotsOf ([x] ++ lo.toList ++ hi.toList)
  | .cutArr _ x lo hi => slotsOf ([x] ++ lo.toList ++ hi.toList)
  | .mapUpdate _ m k x => slotsOf [m, k, x]
  | .call _ _ args => slotsOf args
  | .callv x args => slotsOf (x :: args)
  | .makeFunc _ caps => slotsOf caps

def guardUses : Option (Nat × Bool) → List Nat
  | some (t, _) => [t]
  | none => []

def DOper.uses (o : DOper) : List Nat := o.op.uses ++ guardUses o.guard

/-- Do two operations share a slot that one of them writes? 'i' stands ahead of 'j' in the text. -/
def slotsMeet (i j : DOper) : Bool :=
  (match i.dst with | some d => j.uses.contains d || j.dst == some d | none => false) ||
  (match j.dst with | some d => i.uses.contains d | none => false)

/-- Must two operations keep their order, whatever they are handed? -/
def clash (a b : DOp) : Bool :=
  (a.cls == 5 && (b.cls == 5 || b.cls == 4)) || (b.cls == 5 && (a.cls == 5 || a.cls == 4)) ||
  (a.cls == 4 && (b.cls == 3 || b.makes)) || (b.cls == 4 && (a.cls == 3 || a.makes))

/-- Must two operations keep their order, unless they touch other blocks? -/
def mayClash (a b : DOp) : Bool :=
  (a.cls == 3 && (b.cls == 2 || b.cls == 3)) || (b.cls == 3 && (a.cls == 2 || a.cls == 3)) ||
  (a.cls == 5 && b.cls != 0) || (b.cls == 5 && a.cls != 0)

def bound (i j : DOper) : Bool := slotsMeet i j || clash i.op j.op

/-- The operations that must come ahead of each, all of them: bit i of the j-th number. -/
def befs (ops : List Oper) : List Nat → List Oper → List Nat
  | acc, [] => acc
  | acc, o :: rest =>
    befs ops (acc ++ [o.after.toList.foldl (fun s e => if Region.binds .any e then s ||| 2 ^ e.on ||| acc.getD e.on 0 else s) 0]) rest

def edgesOk (n : Nat) (o : Oper) : Bool := o.after.toList.all fun e => !Region.binds .any e || decide (e.on < n)

def allEdgesOk : Nat → List Oper → Bool
  | _, [] => true
  | n, o :: rest => edgesOk n o && allEdgesOk (n + 1) rest

def DOpnd.noKey : DOpnd → Bool
  | .tmp _ => true
  | .const u => u.key.isEmpty

/-- No constant among what an operation is handed names a block. -/
def DOp.constsOk : DOp → Bool
  | .load _ a => a.noKey
  | .store _ a _ => a.noKey
  | .lookup _ _ _ m _ => m.noKey
  | .mapUpdate _ m _ _ => m.noKey
  | .len _ x => x.noKey
  | .append _ _ _ s x => s.noKey && x.noKey
  | .range x => x.noKey
  | .next x => x.noKey
  | .entry x => x.noKey
  | _ => true

/-- Is each pair that must keep its order bound by edges? -/
def ordered (ds : List DOper) (bs : List Nat) : Bool :=
  (List.range ds.length).all fun j => (List.range j).all fun i => !bound (ds.getD i default) (ds.getD j default) || (bs.getD j 0).testBit i

/-- The pairs that are to be looked at while the code runs. -/
def toCheck (ds : List DOper) (bs : List Nat) : List (Nat × Nat) :=
  (List.range ds.length).flatMap fun j => (List.range j).filterMap fun i =>
    if mayClash (ds.getD i default).op (ds.getD j default).op && !(bs.getD j 0).testBit i then some (i, j) else none

/-- A pure call that is not bound to what may make or write blocks takes closed arguments alone. -/
def strict (ds : List DOper) (bs : List Nat) (j : Nat) (o : DOper) : DOper :=
  match o.op with
  | .call 1 f args =>
    if (List.range ds.length).all fun i =>
      i == j || (if i < j then (bs.getD j 0).testBit i else (bs.getD i 0).testBit j) || !((ds.getD i default).op.cls == 3 || (ds.getD i default).op.cls == 5 || (ds.getD i default).op.makes)
    then o else { o with op := .call 2 f args }
  | _ => o

def compGuard (ops : Array Oper) : Option (Nat × Bool) → Option (Option (Nat × Bool))
  | none => some none
  | some (j, want) =>
    match ops[j]? with
    | some o =>
      match o.dst with
      | some t => some (some (t, want))
      | none => none
    | none => none

def compOper (P : Program) (pure : Nat → Bool) (ops : Array Oper) (o : Oper) : Option DOper := do
  let op ← compOp P pure o.op
  let g ← compGuard ops o.guard
  some { dst := o.dst, op := op, guard := g }

def compOpers (P : Program) (pure : Nat → Bool) (ops : Array Oper) : List Oper → Option (List DOper)
  | [] => some []
  | o :: rest => do
    let d ← compOper P pure ops o
    let ds ← compOpers P pure ops rest
    some (d :: ds)

/-- No loop over a function. -/
def DCode.flat : DCode → Bool
  | .seq a b => a.flat && b.flat
  | .cond _ a b => a.flat && b.flat
  | .block _ c => c.flat
  | .loop c => c.flat
  | .rangeFunc .. => false
  | _ => true

def compCode (P : Program) (pure : Nat → Bool) : Code → Option DCode
  | .skip => some .skip
  | .region _ ops draw =>
    match compOpers P pure ops ops.toList with
    | some ds =>
      if draw then
        let bs := befs ops.toList [] ops.toList
        let es := ds.mapIdx (strict ds bs)
        if allEdgesOk 0 ops.toList && ordered es bs && es.all (fun d => d.op.constsOk) then
          match toCheck es bs with
          | [] => some (.region es)
          | chk => some (.regionC es chk)
        else none
      else some (.region ds)
    | none => none
  | .seq a b => do
    let a ← compCode P pure a
    let b ← compCode P pure b
    some (.seq a b)
  | .cond c a b => do
    let c ← compOpnd c
    let a ← compCode P pure a
    let b ← compCode P pure b
    some (.cond c a b)
  | .block id c => (compCode P pure c).map (.block id)
  | .loop c => (compCode P pure c).map .loop
  | .exit id => some (.exit id)
  | .ret => some .ret
  | .rangeFunc g ps a b => do
    let g ← compOpnd g
    let a ← compCode P pure a
    let b ← compCode P pure b
    if a.flat && b.flat then some (.rangeFunc g ps.toList a b) else some .fail
  | _ => some .fail

def compRes (P : Program) : List ResultVar → Option (List DRes)
  | [] => some []
  | .tmp t :: rest => (compRes P rest).map (.tmp t :: ·)
  | .cell a t :: rest =>
    match loadTy P t, compRes P rest with
    | some n, some r => some (.cell a n :: r)
    | _, _ => none

def compFn (P : Program) (pure : Nat → Bool) (f : Nat) : Option DFunc :=
  match P.funcs[f]? with
  | some fn =>
    if fn.name == "runtime.NumGoroutine" then none else
    match fn.body with
    | some c =>
      match compCode P pure c, compRes P fn.results.toList with
      | some b, some rs => some { ntmps := fn.ntmps, results := rs, body := b }
      | _, _ => none
    | none => none
  | none => none

end Go.Dv
