/- The quick F machine with what comes next handed on: it runs to what the fast F machine runs to. No condition. -/
import Derived.Test.YtjnllnigogpagadDfQ
namespace Go.Df
open Go.Dv
set_option linter.unusedVariables false      -- of eight fields one is asked for

noncomputable section

abbrev Rs := Option (FV × FHeap × Nat)
abbrev KN := Tr FV → Nat → FHeap → Nat → Rs
abbrev KX := Ex → Tr FV → Nat → FHeap → Nat → Rs

/-- What does not change while a function runs. -/
structure Env where
  fc : Facts
  tb : Tbl
  cl : FCaller

/-! ### Operations -/

structure OpF where
  f : Env → KN → Nat → Tr FV → Nat → FHeap → Nat → Rs

/-- Where a result goes, and on. -/
structure NxF where
  f : Env → KN → Nat → Tr FV → Nat → FHeap → Nat → FV → Rs

def nxN (b : OpF) (en : Env) (kn : KN) (base : Nat) (tm : Tr FV) (sz : Nat) (hp : FHeap) (nx : Nat) (_ : FV) : Rs := b.f en kn (Nat.succ base) tm sz hp nx
def nxD (d : Nat) (p : Pa) (b : OpF) (en : Env) (kn : KN) (base : Nat) (tm : Tr FV) (sz : Nat) (hp : FHeap) (nx : Nat) (v : FV) : Rs := Bool.rec (motive := fun _ => Rs) none (b.f en kn (Nat.succ base) (vPut (some v) p tm) sz hp nx) (Nat.ble d sz)
def nxA (d : Nat) (i j : Dg) (b : OpF) (en : Env) (kn : KN) (base : Nat) (tm : Tr FV) (sz : Nat) (hp : FHeap) (nx : Nat) (v : FV) : Rs := Bool.rec (motive := fun _ => Rs) none (b.f en kn (Nat.succ base) (putA i j (some v) tm) sz hp nx) (Nat.ble d sz)
def nxB (d : Nat) (i j k : Dg) (b : OpF) (en : Env) (kn : KN) (base : Nat) (tm : Tr FV) (sz : Nat) (hp : FHeap) (nx : Nat) (v : FV) : Rs := Bool.rec (motive := fun _ => Rs) none (b.f en kn (Nat.succ base) (putB i j k (some v) tm) sz hp nx) (Nat.ble d sz)
def compDP : Pa → Nat → OpF → NxF := @Pa.rec (fun _ => Nat → OpF → NxF) (fun i j d b => .mk (nxA d i j b)) (fun i j k d b => .mk (nxB d i j k b)) (fun i j k l m n d b => .mk (nxD d (.c i j k l m n) b)) (fun k d b => .mk (nxD d (.r k) b))
theorem compDP_eq (p : Pa) (d : Nat) (b : OpF) (en : Env) (kn : KN) (base : Nat) (tm : Tr FV) (sz : Nat) (hp : FHeap) (nx : Nat) (v : FV) : (compDP p d b).f en kn base tm sz hp nx v = nxD d p b en kn base tm sz hp nx v := by cases p <;> rfl
def compD : Option Nat → OpF → NxF := @Option.rec Nat (fun _ => OpF → NxF) (fun b => .mk (nxN b)) (fun d b => compDP (pq d) (Nat.succ d) b)

/-- On with a state, if there is one. -/
def goOn (b : OpF) (en : Env) (kn : KN) (base : Nat) (r : Option FSt) : Rs :=
  match r with
  | some s => b.f en kn (Nat.succ base) s.tm s.sz s.hp s.nx
  | none => none

theorem compD_eq (dst : Option Nat) (b : OpF) (en : Env) (kn : KN) (base : Nat) (tm : Tr FV) (sz : Nat) (hp : FHeap) (nx : Nat) (v : FV) : (compD dst b).f en kn base tm sz hp nx v = goOn b en kn base (putK ⟨tm, sz, hp, nx⟩ dst v) := by
  cases dst with
  | none => rfl
  | some d =>
    show (compDP (pq d) (Nat.succ d) b).f en kn base tm sz hp nx v = _
    rw [compDP_eq]
    show Bool.rec (motive := fun _ => Rs) none (b.f en kn (Nat.succ base) (vPut (some v) (pq d) tm) sz hp nx) (Nat.ble (Nat.succ d) sz) = goOn b en kn base (bif Nat.ble (Nat.succ d) sz then some (⟨kTput tm d (some v), sz, hp, nx⟩ : FSt) else none)
    rw [vPut_eq]
    cases Nat.ble (Nat.succ d) sz <;> rfl

def keepR (v : Option FV) (nf : NxF) (en : Env) (kn : KN) (base : Nat) (tm : Tr FV) (sz : Nat) (hp : FHeap) (nx : Nat) : Rs := @Option.rec FV (fun _ => NxF → Env → KN → Nat → Tr FV → Nat → FHeap → Nat → Rs) (fun _ _ _ _ _ _ _ _ => none) (fun v nf en kn base tm sz hp nx => nf.f en kn base tm sz hp nx v) v nf en kn base tm sz hp nx
def bothPR : FV × FHeap → NxF → Env → KN → Nat → Tr FV → Nat → Nat → Rs := @Prod.rec FV FHeap (fun _ => NxF → Env → KN → Nat → Tr FV → Nat → Nat → Rs) (fun v hp nf en kn base tm sz nx => nf.f en kn base tm sz hp nx v)
def bothR (v : Option (FV × FHeap)) (nf : NxF) (en : Env) (kn : KN) (base : Nat) (tm : Tr FV) (sz nx : Nat) : Rs := @Option.rec (FV × FHeap) (fun _ => NxF → Env → KN → Nat → Tr FV → Nat → Nat → Rs) (fun _ _ _ _ _ _ _ => none) bothPR v nf en kn base tm sz nx
def setR (h : Option FHeap) (nf : NxF) (en : Env) (kn : KN) (base : Nat) (tm : Tr FV) (sz nx : Nat) : Rs := @Option.rec FHeap (fun _ => NxF → Env → KN → Nat → Tr FV → Nat → Nat → Rs) (fun _ _ _ _ _ _ _ => none) (fun hp nf en kn base tm sz nx => nf.f en kn base tm sz hp nx .undef) h nf en kn base tm sz nx

theorem keepR_eq (dst : Option Nat) (b : OpF) (en : Env) (kn : KN) (base : Nat) (tm : Tr FV) (sz : Nat) (hp : FHeap) (nx : Nat) (r : Option FV) : keepR r (compD dst b) en kn base tm sz hp nx = goOn b en kn base (afterK ⟨tm, sz, hp, nx⟩ dst (keepK hp r)) := by
  cases r with
  | none => rfl
  | some p => exact compD_eq _ _ _ _ _ _ _ _ _ _

theorem bothR_eq (dst : Option Nat) (b : OpF) (en : Env) (kn : KN) (base : Nat) (tm : Tr FV) (sz : Nat) (hp : FHeap) (nx : Nat) (r : Option (FV × FHeap)) : bothR r (compD dst b) en kn base tm sz nx = goOn b en kn base (afterK ⟨tm, sz, hp, nx⟩ dst r) := by
  cases r with
  | none => rfl
  | some p => exact compD_eq _ _ _ _ _ _ _ _ _ _

theorem setR_eq (dst : Option Nat) (b : OpF) (en : Env) (kn : KN) (base : Nat) (tm : Tr FV) (sz : Nat) (hp : FHeap) (nx : Nat) (r : Option FHeap) : setR r (compD dst b) en kn base tm sz nx = goOn b en kn base (afterK ⟨tm, sz, hp, nx⟩ dst (setF r)) := by
  cases r with
  | none => rfl
  | some p => exact compD_eq _ _ _ _ _ _ _ _ _ _

def retHR : FHeap × Nat → FV → NxF → Env → KN → Nat → Tr FV → Nat → Rs := @Prod.rec FHeap Nat (fun _ => FV → NxF → Env → KN → Nat → Tr FV → Nat → Rs) (fun hp nx v nf en kn base tm sz => nf.f en kn base tm sz hp nx v)
def retPR : FV × FHeap × Nat → NxF → Env → KN → Nat → Tr FV → Nat → Rs := @Prod.rec FV (FHeap × Nat) (fun _ => NxF → Env → KN → Nat → Tr FV → Nat → Rs) (fun v q nf en kn base tm sz => retHR q v nf en kn base tm sz)
def retR (r : Rs) (nf : NxF) (en : Env) (kn : KN) (base : Nat) (tm : Tr FV) (sz : Nat) : Rs := @Option.rec (FV × FHeap × Nat) (fun _ => NxF → Env → KN → Nat → Tr FV → Nat → Rs) (fun _ _ _ _ _ _ => none) retPR r nf en kn base tm sz

def numR (nn : NatF) (op : BinOp) (xf yf : TmF) (nf : NxF) (en : Env) (kn : KN) (base : Nat) (tm : Tr FV) (sz : Nat) (hp : FHeap) (nx : Nat) : Rs := keepR (numQ nn op en.fc (xf.f tm) (yf.f tm)) nf en kn base tm sz hp nx
def binR (kd : Kd) (op : BinOp) (xf yf : TmF) (nf : NxF) (en : Env) (kn : KN) (base : Nat) (tm : Tr FV) (sz : Nat) (hp : FHeap) (nx : Nat) : Rs := keepR (binK kd en.fc op (xf.f tm) (yf.f tm)) nf en kn base tm sz hp nx
def loadRS (pt : PartF) (af : TmF) (nf : NxF) (en : Env) (kn : KN) (base : Nat) (tm : Tr FV) (sz : Nat) (hp : FHeap) (nx : Nat) : Rs := keepR (loadQ (af.f tm) pt hp) nf en kn base tm sz hp nx
def storeRS (sf : SetF) (af xf : TmF) (nf : NxF) (en : Env) (kn : KN) (base : Nat) (tm : Tr FV) (sz : Nat) (hp : FHeap) (nx : Nat) : Rs := setR (storeQ (af.f tm) sf hp (xf.f tm)) nf en kn base tm sz nx
def fieldR (off : Nat) (xf : TmF) (nf : NxF) (en : Env) (kn : KN) (base : Nat) (tm : Tr FV) (sz : Nat) (hp : FHeap) (nx : Nat) : Rs := keepR (fieldQ (xf.f tm) off) nf en kn base tm sz hp nx
def fieldOfR (off : Nat) (pt : PartF) (xf : TmF) (nf : NxF) (en : Env) (kn : KN) (base : Nat) (tm : Tr FV) (sz : Nat) (hp : FHeap) (nx : Nat) : Rs := keepR (fieldOfQ off (xf.f tm) pt) nf en kn base tm sz hp nx
def ixR (arr : Option Nat) (esz : Nat) (xf yf : TmF) (nf : NxF) (en : Env) (kn : KN) (base : Nat) (tm : Tr FV) (sz : Nat) (hp : FHeap) (nx : Nat) : Rs := keepR (ixQ arr esz (xf.f tm) (yf.f tm)) nf en kn base tm sz hp nx
def lenR (xf : TmF) (nf : NxF) (en : Env) (kn : KN) (base : Nat) (tm : Tr FV) (sz : Nat) (hp : FHeap) (nx : Nat) : Rs := keepR (lenV (xf.f tm)) nf en kn base tm sz hp nx
def moveR (xf : TmF) (nf : NxF) (en : Env) (kn : KN) (base : Nat) (tm : Tr FV) (sz : Nat) (hp : FHeap) (nx : Nat) : Rs := nf.f en kn base tm sz hp nx (xf.f tm)
def allocR (es : List FV) (nf : NxF) (en : Env) (kn : KN) (base : Nat) (tm : Tr FV) (sz : Nat) (hp : FHeap) (nx : Nat) : Rs := nf.f en kn base tm sz (hPut (some (.row [es])) (pq base) hp) nx (.ptr base 0 0)
def boxR (xf : TmF) (nf : NxF) (en : Env) (kn : KN) (base : Nat) (tm : Tr FV) (sz : Nat) (hp : FHeap) (nx : Nat) : Rs := Bool.rec (motive := fun _ => Rs) none (nf.f en kn base tm sz (hPut (some (.row [cellsQ (xf.f tm)])) (pq base) hp) nx (.ptr base 0 0)) (allOne (cellsQ (xf.f tm)))
def selR (cf af bf : TmF) (nf : NxF) (en : Env) (kn : KN) (base : Nat) (tm : Tr FV) (sz : Nat) (hp : FHeap) (nx : Nat) : Rs := keepR (selQ (cf.f tm) (af.f tm) (bf.f tm)) nf en kn base tm sz hp nx
def nncR (xf : TmF) (nf : NxF) (en : Env) (kn : KN) (base : Nat) (tm : Tr FV) (sz : Nat) (hp : FHeap) (nx : Nat) : Rs := keepR (nncQ (xf.f tm)) nf en kn base tm sz hp nx
def notR (xf : TmF) (nf : NxF) (en : Env) (kn : KN) (base : Nat) (tm : Tr FV) (sz : Nat) (hp : FHeap) (nx : Nat) : Rs := keepR (notQ (xf.f tm)) nf en kn base tm sz hp nx
def unR (op : UnOp) (xf : TmF) (nf : NxF) (en : Env) (kn : KN) (base : Nat) (tm : Tr FV) (sz : Nat) (hp : FHeap) (nx : Nat) : Rs := keepR (unF en.fc op (xf.f tm)) nf en kn base tm sz hp nx
def extR (ix : Nat) (xf : TmF) (nf : NxF) (en : Env) (kn : KN) (base : Nat) (tm : Tr FV) (sz : Nat) (hp : FHeap) (nx : Nat) : Rs := keepR (extractF ix (xf.f tm)) nf en kn base tm sz hp nx
def appRS (esz bytes : Nat) (xf yf : TmF) (nf : NxF) (en : Env) (kn : KN) (base : Nat) (tm : Tr FV) (sz : Nat) (hp : FHeap) (nx : Nat) : Rs := bothR (appQ esz bytes hp (xf.f tm) (yf.f tm) base) nf en kn base tm sz nx
def lookR (kk : KK) (zero : FV) (ok : Bool) (xf yf : TmF) (nf : NxF) (en : Env) (kn : KN) (base : Nat) (tm : Tr FV) (sz : Nat) (hp : FHeap) (nx : Nat) : Rs := keepR (lookupK en.fc kk hp zero ok (xf.f tm) (yf.f tm)) nf en kn base tm sz hp nx
def mupR (kk : KK) (xf yf zf : TmF) (nf : NxF) (en : Env) (kn : KN) (base : Nat) (tm : Tr FV) (sz : Nat) (hp : FHeap) (nx : Nat) : Rs := setR (mapUpdateK en.fc kk hp (xf.f tm) (yf.f tm) (zf.f tm)) nf en kn base tm sz nx
def buildR (zero : List FV) (parts : List (Nat × Nat × DOpnd)) (nf : NxF) (en : Env) (kn : KN) (base : Nat) (tm : Tr FV) (sz : Nat) (hp : FHeap) (nx : Nat) : Rs := keepR (aggO (fillQ tm parts zero)) nf en kn base tm sz hp nx
def buildSlR (esz len : Nat) (zero : List (List FV)) (parts : List (Nat × DOpnd)) (nf : NxF) (en : Env) (kn : KN) (base : Nat) (tm : Tr FV) (sz : Nat) (hp : FHeap) (nx : Nat) : Rs := bothR (rowO base len esz hp (fillRowsQ tm esz parts zero)) nf en kn base tm sz nx
def callR (f : Nat) (args : List DOpnd) (nf : NxF) (en : Env) (kn : KN) (base : Nat) (tm : Tr FV) (sz : Nat) (hp : FHeap) (nx : Nat) : Rs := retR (en.cl (.fn f) (argsQ tm args) hp nx) nf en kn base tm sz
def pureR (mode f : Nat) (args : List DOpnd) (nf : NxF) (en : Env) (kn : KN) (base : Nat) (tm : Tr FV) (sz : Nat) (hp : FHeap) (nx : Nat) : Rs := keepR (cpureQ en.tb en.cl mode hp f (argsQ tm args)) nf en kn base tm sz hp nx
def otherR (op : DOp) (nf : NxF) (en : Env) (kn : KN) (base : Nat) (tm : Tr FV) (sz : Nat) (hp : FHeap) (nx : Nat) : Rs := bothR (evalK op en.fc (opndK tm) hp base) nf en kn base tm sz nx
def callvVR : FV → List FV → NxF → Env → KN → Nat → Tr FV → Nat → FHeap → Nat → Rs := @FV.rec (fun _ => List FV → NxF → Env → KN → Nat → Tr FV → Nat → FHeap → Nat → Rs) (fun _ => Unit) (fun _ _ _ _ _ _ _ _ _ => none) (fun _ _ _ _ _ _ _ _ _ _ => none) (fun _ _ _ _ _ _ _ _ _ _ _ _ => none) (fun _ _ _ _ _ _ _ _ _ _ _ => none) (fun _ _ _ _ _ _ _ _ _ _ _ _ _ => none) (fun _ _ _ _ _ _ _ _ _ _ => none) (fun f caps _ args nf en kn base tm sz hp nx => retR (en.cl (.fn f) (vapp args caps) hp nx) nf en kn base tm sz) (fun _ _ _ _ _ _ _ _ _ _ _ => none) (fun _ _ _ _ _ _ _ _ _ _ _ => none) (fun b args nf en kn base tm sz hp nx => retR (en.cl (.yd b) args hp nx) nf en kn base tm sz) (fun _ _ _ _ _ _ _ _ _ _ _ => none) (fun _ _ _ _ _ _ _ _ _ => none) (fun _ _ _ _ _ _ _ _ _ => none) (fun _ _ _ _ _ _ _ _ _ _ => none) () (fun _ _ _ _ => ())
def callvR (x : DOpnd) (args : List DOpnd) (nf : NxF) (en : Env) (kn : KN) (base : Nat) (tm : Tr FV) (sz : Nat) (hp : FHeap) (nx : Nat) : Rs := callvVR ((compX x).f tm) (argsQ tm args) nf en kn base tm sz hp nx
def failR (_ : NxF) (_ : Env) (_ : KN) (_ : Nat) (_ : Tr FV) (_ : Nat) (_ : FHeap) (_ : Nat) : Rs := none

def compBR : Kd → BinOp → DOpnd → DOpnd → NxF → OpF :=
  @Kd.rec (fun _ => BinOp → DOpnd → DOpnd → NxF → OpF) (fun op x y nf => .mk (numR (compN op) op (compX x) (compX y) nf)) (fun op x y nf => .mk (binR .str op (compX x) (compX y) nf)) (fun op x y nf => .mk (binR .bool op (compX x) (compX y) nf)) (fun op x y nf => .mk (binR .slc op (compX x) (compX y) nf)) (fun op x y nf => .mk (binR .ptr op (compX x) (compX y) nf)) (fun op x y nf => .mk (binR .map op (compX x) (compX y) nf)) (fun op x y nf => .mk (binR .fn op (compX x) (compX y) nf)) (fun ks op x y nf => .mk (binR (.agg ks) op (compX x) (compX y) nf))
def compUR : UnOp → DOpnd → NxF → OpF := @UnOp.rec (fun _ => DOpnd → NxF → OpF) (fun x nf => .mk (unR .neg (compX x) nf)) (fun x nf => .mk (unR .xor (compX x) nf)) (fun x nf => .mk (notR (compX x) nf)) (fun x nf => .mk (unR .plus (compX x) nf))
def compLR : LK → DOpnd → NxF → OpF := @LK.rec (fun _ => DOpnd → NxF → OpF) (fun n x nf => .mk (otherR (.len (.arr n) x) nf)) (fun x nf => .mk (otherR (.len .str x) nf)) (fun x nf => .mk (lenR (compX x) nf)) (fun x nf => .mk (otherR (.len .map x) nf))
def compCR (mode f : Nat) (args : List DOpnd) (nf : NxF) : OpF := Nat.rec (motive := fun _ => OpF) (.mk (callR f args nf)) (fun m _ => .mk (pureR (Nat.succ m) f args nf)) mode

def compOR : DOp → NxF → OpF :=
  @DOp.rec (fun _ => NxF → OpF)
    (fun x nf => .mk (moveR (compX x) nf))
    (fun c a b nf => .mk (selR (compX c) (compX a) (compX b) nf))
    (fun zero nf => .mk (allocR (kmap lift0 zero) nf))
    (fun x nf => .mk (boxR (compX x) nf))
    (fun zero parts nf => .mk (buildR (kmap lift0 zero) parts nf))
    (fun esz len zero parts nf => .mk (buildSlR esz len (krep len (kmap lift0 zero)) parts nf))
    (fun n a nf => .mk (loadRS (compA n) (compX a) nf))
    (fun n a x nf => .mk (storeRS (compF n) (compX a) (compX x) nf))
    (fun x nf => .mk (nncR (compX x) nf))
    (fun op kd x y nf => compBR kd op x y nf)
    (fun op x nf => compUR op x nf)
    (fun k x nf => .mk (otherR (.conv k x) nf))
    (fun r nf => .mk (otherR (.makeMap r) nf))
    (fun esz bytes zero len cap nf => .mk (otherR (.makeSlice esz bytes zero len cap) nf))
    (fun esz x lo hi nf => .mk (otherR (.slice esz x lo hi) nf))
    (fun off x nf => .mk (fieldR off (compX x) nf))
    (fun off n x nf => .mk (fieldOfR off (compA n) (compX x) nf))
    (fun arr esz x ix nf => .mk (ixR arr esz (compX x) (compX ix) nf))
    (fun arr x ix nf => .mk (otherR (.index arr x ix) nf))
    (fun kk zero ok m k nf => .mk (lookR kk (liftV zero) ok (compX m) (compX k) nf))
    (fun kk m k x nf => .mk (mupR kk (compX m) (compX k) (compX x) nf))
    (fun x ix nf => .mk (extR ix (compX x) nf))
    (fun k x nf => compLR k x nf)
    (fun mx x y nf => .mk (otherR (.minmax mx x y) nf))
    (fun esz bytes zero s x nf => .mk (appRS esz bytes (compX s) (compX x) nf))
    (fun mode f args nf => compCR mode f args nf)
    (fun x args nf => .mk (callvR x args nf))
    (fun f caps nf => .mk (otherR (.makeFunc f caps) nf))
    (fun x nf => .mk (otherR (.range x) nf))
    (fun x nf => .mk (otherR (.next x) nf))
    (fun x nf => .mk (otherR (.entry x) nf))
    (fun n x lo hi nf => .mk (otherR (.cutArr n x lo hi) nf))
    (fun nf => .mk (failR nf))

theorem stepR_eq {b : OpF} {en : Env} {kn : KN} {base : Nat} {dst : Option Nat} {tm : Tr FV} {sz : Nat} {hp : FHeap} {nx : Nat} (op : DOp)
    (h : opStepK op en.fc en.tb en.cl base dst ⟨tm, sz, hp, nx⟩ = afterK ⟨tm, sz, hp, nx⟩ dst (evalK op en.fc (opndK tm) hp base)) {x : Rs} (e : x = goOn b en kn base (afterK ⟨tm, sz, hp, nx⟩ dst (evalK op en.fc (opndK tm) hp base))) :
    x = goOn b en kn base (opStepK op en.fc en.tb en.cl base dst ⟨tm, sz, hp, nx⟩) := by rw [h]; exact e

theorem compOR_eq (op : DOp) (dst : Option Nat) (b : OpF) (en : Env) (kn : KN) (base : Nat) (tm : Tr FV) (sz : Nat) (hp : FHeap) (nx : Nat) :
    (compOR op (compD dst b)).f en kn base tm sz hp nx = goOn b en kn base (opStepK op en.fc en.tb en.cl base dst ⟨tm, sz, hp, nx⟩) := by
  cases op with
  | move x =>
    refine stepR_eq _ rfl ?_
    show (compD dst b).f en kn base tm sz hp nx ((compX x).f tm) = _
    rw [compD_eq, compX_eq]; rfl
  | pick c a d =>
    refine stepR_eq _ rfl ?_
    show keepR (selQ ((compX c).f tm) ((compX a).f tm) ((compX d).f tm)) (compD dst b) en kn base tm sz hp nx = _
    rw [keepR_eq, selQ_eq, compX_eq, compX_eq, compX_eq, keepK_eq]; rfl
  | alloc zero =>
    refine stepR_eq _ rfl ?_
    show (compD dst b).f en kn base tm sz (hPut (some (.row [kmap lift0 zero])) (pq base) hp) nx (.ptr base 0 0) = _
    rw [compD_eq, hPut_eq]; rfl
  | box x =>
    refine stepR_eq _ rfl ?_
    show Bool.rec (motive := fun _ => Rs) none ((compD dst b).f en kn base tm sz (hPut (some (.row [cellsQ ((compX x).f tm)])) (pq base) hp) nx (.ptr base 0 0)) (allOne (cellsQ ((compX x).f tm))) = _
    rw [compD_eq, hPut_eq, compX_eq, cellsQ_eq, allOne_eq]
    show _ = goOn b en kn base (afterK ⟨tm, sz, hp, nx⟩ dst (bif kall FV.one (cellsK (opndK tm x)) then some (.ptr base 0 0, kTput hp base (some (.row [cellsK (opndK tm x)]))) else none))
    cases kall FV.one (cellsK (opndK tm x)) <;> rfl
  | build zero parts =>
    refine stepR_eq _ rfl ?_
    show keepR (aggO (fillQ tm parts (kmap lift0 zero))) (compD dst b) en kn base tm sz hp nx = _
    rw [keepR_eq, fillQ_eq]
    show _ = goOn b en kn base (afterK ⟨tm, sz, hp, nx⟩ dst (match fillK (opndK tm) parts (kmap lift0 zero) with | some cs => some (.agg cs, hp) | none => none))
    cases fillK (opndK tm) parts (kmap lift0 zero) <;> rfl
  | buildSlice esz len zero parts =>
    refine stepR_eq _ rfl ?_
    show bothR (rowO base len esz hp (fillRowsQ tm esz parts (krep len (kmap lift0 zero)))) (compD dst b) en kn base tm sz nx = _
    rw [bothR_eq dst b en kn base tm sz hp nx, fillRowsQ_eq]
    show _ = goOn b en kn base (afterK ⟨tm, sz, hp, nx⟩ dst (match fillRowsK (opndK tm) esz parts (krep len (kmap lift0 zero)) with | some es => some (.sl base 0 len esz, kTput hp base (some (.row es))) | none => none))
    cases fillRowsK (opndK tm) esz parts (krep len (kmap lift0 zero)) with
    | none => rfl
    | some es =>
      show goOn b en kn base (afterK ⟨tm, sz, hp, nx⟩ dst (some (.sl base 0 len esz, hPut (some (.row es)) (pq base) hp))) = _
      rw [hPut_eq]
  | load n a =>
    refine stepR_eq _ rfl ?_
    show keepR (loadQ ((compX a).f tm) (compA n) hp) (compD dst b) en kn base tm sz hp nx = _
    rw [keepR_eq, loadQ_eq, compX_eq]; rfl
  | store n a x =>
    refine stepR_eq _ rfl ?_
    show setR (storeQ ((compX a).f tm) (compF n) hp ((compX x).f tm)) (compD dst b) en kn base tm sz nx = _
    rw [setR_eq dst b en kn base tm sz hp nx, storeQ_eq, compX_eq, compX_eq]; rfl
  | nilCheck x =>
    refine stepR_eq _ rfl ?_
    show keepR (nncQ ((compX x).f tm)) (compD dst b) en kn base tm sz hp nx = _
    rw [keepR_eq, nncQ_eq, compX_eq, keepK_eq]; rfl
  | bin op kd x y =>
    refine stepR_eq _ rfl ?_
    cases kd with
    | num =>
      show keepR (numQ (compN op) op en.fc ((compX x).f tm) ((compX y).f tm)) (compD dst b) en kn base tm sz hp nx = _
      rw [keepR_eq, numQ_eq, compX_eq, compX_eq]; rfl
    | _ =>
      show keepR (binK _ en.fc op ((compX x).f tm) ((compX y).f tm)) (compD dst b) en kn base tm sz hp nx = _
      rw [keepR_eq, compX_eq, compX_eq]; rfl
  | un op x =>
    refine stepR_eq _ rfl ?_
    cases op with
    | not =>
      show keepR (notQ ((compX x).f tm)) (compD dst b) en kn base tm sz hp nx = _
      rw [keepR_eq, notQ_eq en.fc, compX_eq, keepK_eq]; rfl
    | neg =>
      show keepR (unF en.fc .neg ((compX x).f tm)) (compD dst b) en kn base tm sz hp nx = _
      rw [keepR_eq, compX_eq, keepK_eq]; rfl
    | xor =>
      show keepR (unF en.fc .xor ((compX x).f tm)) (compD dst b) en kn base tm sz hp nx = _
      rw [keepR_eq, compX_eq, keepK_eq]; rfl
    | plus =>
      show keepR (unF en.fc .plus ((compX x).f tm)) (compD dst b) en kn base tm sz hp nx = _
      rw [keepR_eq, compX_eq, keepK_eq]; rfl
  | fieldAddr off x =>
    refine stepR_eq _ rfl ?_
    show keepR (fieldQ ((compX x).f tm) off) (compD dst b) en kn base tm sz hp nx = _
    rw [keepR_eq, fieldQ_eq, compX_eq]; rfl
  | field off n x =>
    refine stepR_eq _ rfl ?_
    show keepR (fieldOfQ off ((compX x).f tm) (compA n)) (compD dst b) en kn base tm sz hp nx = _
    rw [keepR_eq, fieldOfQ_eq, compX_eq]; rfl
  | indexAddr arr esz x ix =>
    refine stepR_eq _ rfl ?_
    show keepR (ixQ arr esz ((compX x).f tm) ((compX ix).f tm)) (compD dst b) en kn base tm sz hp nx = _
    rw [keepR_eq, ixQ_eq, compX_eq, compX_eq]; rfl
  | lookup kk zero ok m k =>
    refine stepR_eq _ rfl ?_
    show keepR (lookupK en.fc kk hp (liftV zero) ok ((compX m).f tm) ((compX k).f tm)) (compD dst b) en kn base tm sz hp nx = _
    rw [keepR_eq, compX_eq, compX_eq]; rfl
  | mapUpdate kk m k x =>
    refine stepR_eq _ rfl ?_
    show setR (mapUpdateK en.fc kk hp ((compX m).f tm) ((compX k).f tm) ((compX x).f tm)) (compD dst b) en kn base tm sz nx = _
    rw [setR_eq dst b en kn base tm sz hp nx, compX_eq, compX_eq, compX_eq]; rfl
  | extract x ix =>
    refine stepR_eq _ rfl ?_
    show keepR (extractF ix ((compX x).f tm)) (compD dst b) en kn base tm sz hp nx = _
    rw [keepR_eq, compX_eq, keepK_eq]; rfl
  | len k x =>
    refine stepR_eq _ rfl ?_
    cases k with
    | slc =>
      show keepR (lenV ((compX x).f tm)) (compD dst b) en kn base tm sz hp nx = _
      rw [keepR_eq, lenV_eq hp, compX_eq]; rfl
    | arr n => exact bothR_eq dst b en kn base tm sz hp nx (evalK (.len (.arr n) x) en.fc (opndK tm) hp base)
    | str => exact bothR_eq dst b en kn base tm sz hp nx (evalK (.len .str x) en.fc (opndK tm) hp base)
    | map => exact bothR_eq dst b en kn base tm sz hp nx (evalK (.len .map x) en.fc (opndK tm) hp base)
  | append esz bytes zero x y =>
    refine stepR_eq _ rfl ?_
    show bothR (appQ esz bytes hp ((compX x).f tm) ((compX y).f tm) base) (compD dst b) en kn base tm sz nx = _
    rw [bothR_eq dst b en kn base tm sz hp nx, appQ_eq, compX_eq, compX_eq]; rfl
  | call mode f args =>
    cases mode with
    | zero =>
      show retR (en.cl (.fn f) (argsQ tm args) hp nx) (compD dst b) en kn base tm sz = goOn b en kn base (match en.cl (.fn f) (kmap (opndK tm) args) hp nx with | some (v, h, n) => putK ⟨tm, sz, h, n⟩ dst v | none => none)
      rw [argsQ_eq]
      cases en.cl (.fn f) (kmap (opndK tm) args) hp nx with
      | none => rfl
      | some r => exact compD_eq _ _ _ _ _ _ _ _ _ _
    | succ m =>
      show keepR (cpureQ en.tb en.cl (m + 1) hp f (argsQ tm args)) (compD dst b) en kn base tm sz hp nx = goOn b en kn base (match callPureK en.tb en.cl (m + 1) hp f (kmap (opndK tm) args) with | some v => putK ⟨tm, sz, hp, nx⟩ dst v | none => none)
      rw [argsQ_eq, cpureQ_eq]
      cases callPureK en.tb en.cl (m + 1) hp f (kmap (opndK tm) args) with
      | none => rfl
      | some r => exact compD_eq _ _ _ _ _ _ _ _ _ _
  | callv x args =>
    show callvVR ((compX x).f tm) (argsQ tm args) (compD dst b) en kn base tm sz hp nx = goOn b en kn base (match opndK tm x with
      | .fn f caps =>
        (match en.cl (.fn f) (kapp (kmap (opndK tm) args) caps) hp nx with
        | some (v, h, n) => putK (⟨tm, sz, h, n⟩ : FSt) dst v
        | none => none)
      | .yield c =>
        (match en.cl (.yd c) (kmap (opndK tm) args) hp nx with
        | some (v, h, n) => putK (⟨tm, sz, h, n⟩ : FSt) dst v
        | none => none)
      | _ => none)
    rw [compX_eq, argsQ_eq]
    cases opndK tm x with
    | fn f caps =>
      show retR (en.cl (.fn f) (vapp (kmap (opndK tm) args) caps) hp nx) (compD dst b) en kn base tm sz = _
      rw [vapp_eq]
      simp only
      cases en.cl (.fn f) (kapp (kmap (opndK tm) args) caps) hp nx with
      | none => rfl
      | some r => exact compD_eq _ _ _ _ _ _ _ _ _ _
    | yield c =>
      show retR (en.cl (.yd c) (kmap (opndK tm) args) hp nx) (compD dst b) en kn base tm sz = _
      simp only
      cases en.cl (.yd c) (kmap (opndK tm) args) hp nx with
      | none => rfl
      | some r => exact compD_eq _ _ _ _ _ _ _ _ _ _
    | _ => rfl
  | fail => rfl
  | conv k x =>
    refine stepR_eq _ rfl ?_
    exact bothR_eq dst b en kn base tm sz hp nx (evalK (.conv k x) en.fc (opndK tm) hp base)
  | makeMap r =>
    refine stepR_eq _ rfl ?_
    exact bothR_eq dst b en kn base tm sz hp nx (evalK (.makeMap r) en.fc (opndK tm) hp base)
  | makeSlice esz bytes zero len cap =>
    refine stepR_eq _ rfl ?_
    exact bothR_eq dst b en kn base tm sz hp nx (evalK (.makeSlice esz bytes zero len cap) en.fc (opndK tm) hp base)
  | slice esz x lo hi =>
    refine stepR_eq _ rfl ?_
    exact bothR_eq dst b en kn base tm sz hp nx (evalK (.slice esz x lo hi) en.fc (opndK tm) hp base)
  | index arr x ix =>
    refine stepR_eq _ rfl ?_
    exact bothR_eq dst b en kn base tm sz hp nx (evalK (.index arr x ix) en.fc (opndK tm) hp base)
  | minmax mx x y =>
    refine stepR_eq _ rfl ?_
    exact bothR_eq dst b en kn base tm sz hp nx (evalK (.minmax mx x y) en.fc (opndK tm) hp base)
  | makeFunc f caps =>
    refine stepR_eq _ rfl ?_
    exact bothR_eq dst b en kn base tm sz hp nx (evalK (.makeFunc f caps) en.fc (opndK tm) hp base)
  | range x =>
    refine stepR_eq _ rfl ?_
    exact bothR_eq dst b en kn base tm sz hp nx (evalK (.range x) en.fc (opndK tm) hp base)
  | next x =>
    refine stepR_eq _ rfl ?_
    exact bothR_eq dst b en kn base tm sz hp nx (evalK (.next x) en.fc (opndK tm) hp base)
  | entry x =>
    refine stepR_eq _ rfl ?_
    exact bothR_eq dst b en kn base tm sz hp nx (evalK (.entry x) en.fc (opndK tm) hp base)
  | cutArr n x lo hi =>
    refine stepR_eq _ rfl ?_
    exact bothR_eq dst b en kn base tm sz hp nx (evalK (.cutArr n x lo hi) en.fc (opndK tm) hp base)

/-! ### Lists of operations -/

def guardR (p : Pa) (want : Bool) (a : OpF) (nf : NxF) (en : Env) (kn : KN) (base : Nat) (tm : Tr FV) (sz : Nat) (hp : FHeap) (nx : Nat) : Rs := Bool.rec (motive := fun _ => Rs) (nf.f en kn base tm sz hp nx .undef) (a.f en kn base tm sz hp nx) (wantV (vGet p tm) want)
def compGPR : Nat × Bool → OpF → NxF → OpF := @Prod.rec Nat Bool (fun _ => OpF → NxF → OpF) (fun t want a nf => .mk (guardR (pq t) want a nf))
def compGR (g : Option (Nat × Bool)) (a : OpF) (nf : NxF) : OpF := @Option.rec (Nat × Bool) (fun _ => OpF → NxF → OpF) (fun a _ => a) compGPR g a nf
def compSR : DOper → OpF → OpF := @DOper.rec (fun _ => OpF → OpF) (fun dst op g b => compGR g (compOR op (compD dst b)) (compD dst b))

theorem compSR_eq (o : DOper) (b : OpF) (en : Env) (kn : KN) (base : Nat) (tm : Tr FV) (sz : Nat) (hp : FHeap) (nx : Nat) : (compSR o b).f en kn base tm sz hp nx = goOn b en kn base (stepK en.fc en.tb en.cl base o ⟨tm, sz, hp, nx⟩) := by
  obtain ⟨dst, op, g⟩ := o
  cases g with
  | none => exact compOR_eq op dst b en kn base tm sz hp nx
  | some g =>
    obtain ⟨t, want⟩ := g
    show Bool.rec (motive := fun _ => Rs) ((compD dst b).f en kn base tm sz hp nx .undef) ((compOR op (compD dst b)).f en kn base tm sz hp nx) (wantV (vGet (pq t) tm) want) = goOn b en kn base (bif wantedK (some (t, want)) tm then opStepK op en.fc en.tb en.cl base dst ⟨tm, sz, hp, nx⟩ else putK ⟨tm, sz, hp, nx⟩ dst .undef)
    rw [compD_eq, compOR_eq, wantV_eq]
    cases wantedK (some (t, want)) tm <;> rfl

def doneR (_ : Env) (kn : KN) (_ : Nat) (tm : Tr FV) (sz : Nat) (hp : FHeap) (nx : Nat) : Rs := kn tm sz hp nx
def compOpsR : List DOper → OpF := @List.rec DOper (fun _ => OpF) (.mk doneR) (fun o _ ih => compSR o ih)

def knS (kn : KN) (r : Option FSt) : Rs :=
  match r with
  | some s => kn s.tm s.sz s.hp s.nx
  | none => none

theorem compOpsR_eq (en : Env) (kn : KN) : ∀ (l : List DOper) (base : Nat) (tm : Tr FV) (sz : Nat) (hp : FHeap) (nx : Nat), (compOpsR l).f en kn base tm sz hp nx = knS kn (runOpsK en.fc en.tb en.cl l base ⟨tm, sz, hp, nx⟩)
  | [], _, _, _, _, _ => rfl
  | o :: l, base, tm, sz, hp, nx => by
    show (compSR o (compOpsR l)).f en kn base tm sz hp nx = knS kn (Option.rec (motive := fun _ => Option FSt) none (fun s => runOpsK en.fc en.tb en.cl l (Nat.succ base) s) (stepK en.fc en.tb en.cl base o ⟨tm, sz, hp, nx⟩))
    rw [compSR_eq]
    cases stepK en.fc en.tb en.cl base o ⟨tm, sz, hp, nx⟩ with
    | none => rfl
    | some s1 => exact compOpsR_eq en kn l _ _ _ _ _

/-! ### Code -/

structure CdF where
  f : Env → Nat → KN → KX → Tr FV → Nat → FHeap → Nat → Rs

/-- On from a run's end. -/
def foldK (r : Option (Ex × FSt)) (kn : KN) (kx : KX) : Rs :=
  match r with
  | none => none
  | some (.normal, s) => kn s.tm s.sz s.hp s.nx
  | some (ex, s) => kx ex s.tm s.sz s.hp s.nx

def foldS : FSt → KN → Rs := @FSt.rec (fun _ => KN → Rs) (fun tm sz hp nx kn => kn tm sz hp nx)
def foldX : Ex → FSt → KN → KX → Rs := @Ex.rec (fun _ => FSt → KN → KX → Rs) (fun s kn _ => foldS s kn) (fun i s _ kx => foldS s (kx (.exit i))) (fun s _ kx => foldS s (kx .ret))
def foldP : Ex × FSt → KN → KX → Rs := @Prod.rec Ex FSt (fun _ => KN → KX → Rs) foldX
def foldQ (r : Option (Ex × FSt)) (kn : KN) (kx : KX) : Rs := @Option.rec (Ex × FSt) (fun _ => KN → KX → Rs) (fun _ _ => none) foldP r kn kx
theorem foldQ_eq (r : Option (Ex × FSt)) (kn : KN) (kx : KX) : foldQ r kn kx = foldK r kn kx := by
  cases r with
  | none => rfl
  | some p =>
    obtain ⟨ex, s⟩ := p
    cases ex <;> rfl

/-! Operations that are not in a text's order. -/

def runCQ (fc : Facts) (tb : Tbl) (cl : FCaller) (ops : List DOper) (chk : List (Nat × Nat)) (base : Nat) (l : List DOper) : Nat → FSt → Option (FSt × List (List Nat × Mask)) :=
  @List.rec DOper (fun _ => Nat → FSt → Option (FSt × List (List Nat × Mask))) (fun _ s => some (s, [])) (fun o _ ih k s =>
    @FSt.rec (fun _ => Option (FSt × List (List Nat × Mask))) (fun tm sz hp nx =>
      @Option.rec FSt (fun _ => Option (FSt × List (List Nat × Mask))) none (fun s1 =>
        @Option.rec (FSt × List (List Nat × Mask)) (fun _ => Option (FSt × List (List Nat × Mask))) none (fun p => @Prod.rec FSt (List (List Nat × Mask)) (fun _ => Option (FSt × List (List Nat × Mask))) (fun s' l => some (s', (stepKeysF o tm, maskOfF ops chk base k tm) :: l)) p) (ih (Nat.succ k) s1))
        ((compS o).f fc (tbOf tb (maskOfF ops chk base k tm)) (maskF cl (maskOfF ops chk base k tm)) (Nat.add base k) tm sz hp nx)) s) l

theorem runCQ_eq (fc : Facts) (tb : Tbl) (cl : FCaller) (ops : List DOper) (chk : List (Nat × Nat)) (base : Nat) : ∀ (l : List DOper) (k : Nat) (s : FSt), runCQ fc tb cl ops chk base l k s = runCK fc tb cl ops chk base l k s
  | [], _, _ => rfl
  | o :: rest, k, ⟨tm, sz, hp, nx⟩ => by
    show @Option.rec FSt (fun _ => Option (FSt × List (List Nat × Mask))) none (fun s1 =>
        @Option.rec (FSt × List (List Nat × Mask)) (fun _ => Option (FSt × List (List Nat × Mask))) none (fun p => @Prod.rec FSt (List (List Nat × Mask)) (fun _ => Option (FSt × List (List Nat × Mask))) (fun s' l => some (s', (stepKeysF o tm, maskOfF ops chk base k tm) :: l)) p) (runCQ fc tb cl ops chk base rest (Nat.succ k) s1))
        ((compS o).f fc (tbOf tb (maskOfF ops chk base k tm)) (maskF cl (maskOfF ops chk base k tm)) (Nat.add base k) tm sz hp nx) = (match stepK fc (tbOf tb (maskOfF ops chk base k tm)) (maskF cl (maskOfF ops chk base k tm)) (Nat.add base k) o ⟨tm, sz, hp, nx⟩ with
      | some s1 =>
        (match runCK fc tb cl ops chk base rest (Nat.succ k) s1 with
        | some (s', l) => some (s', (stepKeysF o tm, maskOfF ops chk base k tm) :: l)
        | none => none)
      | none => none)
    rw [compS_eq]
    cases stepK fc (tbOf tb (maskOfF ops chk base k tm)) (maskF cl (maskOfF ops chk base k tm)) (Nat.add base k) o ⟨tm, sz, hp, nx⟩ with
    | none => rfl
    | some s1 =>
      simp only [runCQ_eq fc tb cl ops chk base rest (Nat.succ k) s1]
      cases runCK fc tb cl ops chk base rest (Nat.succ k) s1 <;> rfl

/-- On from a run's end, with the number of slots as it was. -/
def foldSD : FSt → Nat → KN → Rs := @FSt.rec (fun _ => Nat → KN → Rs) (fun tm sz' hp nx sz kn => Bool.rec (motive := fun _ => Rs) (kn tm sz' hp nx) (kn tm sz hp nx) (Nat.beq sz' sz))
theorem foldSD_eq (s : FSt) (sz : Nat) (kn : KN) : foldSD s sz kn = kn s.tm s.sz s.hp s.nx := by
  obtain ⟨tm, sz', hp, nx⟩ := s
  show Bool.rec (motive := fun _ => Rs) (kn tm sz' hp nx) (kn tm sz hp nx) (Nat.beq sz' sz) = kn tm sz' hp nx
  cases h : Nat.beq sz' sz with
  | false => rfl
  | true => rw [Nat.eq_of_beq_eq_true h]
def regCP (ops : List DOper) (chk : List (Nat × Nat)) (sz : Nat) (kn : KN) (p : FSt × List (List Nat × Mask)) : Rs := @Prod.rec FSt (List (List Nat × Mask)) (fun _ => Rs) (fun s l => Bool.rec (motive := fun _ => Rs) none (foldSD s sz kn) (chk.all (pairOk ops l))) p
def regCR (m : Nat) (ops : List DOper) (chk : List (Nat × Nat)) (en : Env) (_ : Nat) (kn : KN) (_ : KX) (tm : Tr FV) (sz : Nat) (hp : FHeap) (nx : Nat) : Rs :=
  @Option.rec (FSt × List (List Nat × Mask)) (fun _ => Rs) none (regCP ops chk sz kn) (runCQ en.fc en.tb en.cl ops chk nx ops 0 ⟨tm, sz, hp, Nat.add nx m⟩)

theorem regCR_eq (ops : List DOper) (chk : List (Nat × Nat)) (en : Env) (n : Nat) (kn : KN) (kx : KX) (tm : Tr FV) (sz : Nat) (hp : FHeap) (nx : Nat) : regCR (klen ops) ops chk en n kn kx tm sz hp nx = foldK (execK en.fc en.tb en.cl (fun b => loopK b n) (.regionC ops chk) ⟨tm, sz, hp, nx⟩) kn kx := by
  show @Option.rec (FSt × List (List Nat × Mask)) (fun _ => Rs) none (regCP ops chk sz kn) (runCQ en.fc en.tb en.cl ops chk nx ops 0 ⟨tm, sz, hp, Nat.add nx (klen ops)⟩) = foldK (match runCK en.fc en.tb en.cl ops chk nx ops 0 ⟨tm, sz, hp, Nat.add nx (klen ops)⟩ with
      | some (s', l) => bif chk.all (pairOk ops l) then some (.normal, s') else none
      | none => none) kn kx
  rw [runCQ_eq]
  cases runCK en.fc en.tb en.cl ops chk nx ops 0 ⟨tm, sz, hp, Nat.add nx (klen ops)⟩ with
  | none => rfl
  | some p =>
    obtain ⟨s, l⟩ := p
    show Bool.rec (motive := fun _ => Rs) none (foldSD s sz kn) (chk.all (pairOk ops l)) = foldK (bif chk.all (pairOk ops l) then some (.normal, s) else none) kn kx
    rw [foldSD_eq]
    cases chk.all (pairOk ops l) <;> rfl

def skipR (_ : Env) (_ : Nat) (kn : KN) (_ : KX) (tm : Tr FV) (sz : Nat) (hp : FHeap) (nx : Nat) : Rs := kn tm sz hp nx
def regR (m : Nat) (a : OpF) (en : Env) (_ : Nat) (kn : KN) (_ : KX) (tm : Tr FV) (sz : Nat) (hp : FHeap) (nx : Nat) : Rs := a.f en kn nx tm sz hp (Nat.add nx m)
def deepR (c : DCode) (en : Env) (n : Nat) (kn : KN) (kx : KX) (tm : Tr FV) (sz : Nat) (hp : FHeap) (nx : Nat) : Rs := foldQ (execK en.fc en.tb en.cl (fun b => loopK b n) c ⟨tm, sz, hp, nx⟩) kn kx
def seqR (a b : CdF) (en : Env) (n : Nat) (kn : KN) (kx : KX) (tm : Tr FV) (sz : Nat) (hp : FHeap) (nx : Nat) : Rs := a.f en n (b.f en n kn kx) kx tm sz hp nx
def ifTR : FT → CdF → CdF → Env → Nat → KN → KX → Tr FV → Nat → FHeap → Nat → Rs := @FT.rec (fun _ => CdF → CdF → Env → Nat → KN → KX → Tr FV → Nat → FHeap → Nat → Rs) (fun _ => Unit) (fun _ => Unit) (fun _ => Unit) (fun _ => Unit) (fun _ => Unit) (fun t a b en n kn kx tm sz hp nx => Bool.rec (motive := fun _ => Rs) (b.f en n kn kx tm sz hp nx) (a.f en n kn kx tm sz hp nx) t) (fun _ _ _ _ _ _ _ _ _ _ _ _ => none) (fun _ _ _ _ _ _ _ _ _ _ _ => none) (fun _ _ _ _ _ _ _ _ _ _ => none) (fun _ _ _ _ _ _ _ _ _ _ => none) (fun _ _ _ _ _ _ _ _ _ _ => none) (fun _ _ _ _ _ _ _ _ _ _ => none) (fun _ _ _ _ _ _ _ _ _ _ => none) (fun _ _ _ _ _ _ _ _ _ _ _ _ _ => none) (fun _ _ _ _ _ _ _ _ _ _ _ _ => none) (fun _ _ _ _ _ _ _ _ _ _ _ => none) (()) (fun _ _ _ _ => ()) (()) (fun _ _ _ _ => ()) (()) (fun _ _ _ _ => ()) (fun _ _ _ _ => ()) (fun _ _ _ => ())
def ifVR : FV → CdF → CdF → Env → Nat → KN → KX → Tr FV → Nat → FHeap → Nat → Rs := @FV.rec (fun _ => CdF → CdF → Env → Nat → KN → KX → Tr FV → Nat → FHeap → Nat → Rs) (fun _ => Unit) (fun _ _ _ _ _ _ _ _ _ _ => none) (ifTR) (fun _ _ _ _ _ _ _ _ _ _ _ _ _ => none) (fun _ _ _ _ _ _ _ _ _ _ _ _ => none) (fun _ _ _ _ _ _ _ _ _ _ _ _ _ _ => none) (fun _ _ _ _ _ _ _ _ _ _ _ => none) (fun _ _ _ _ _ _ _ _ _ _ _ _ _ => none) (fun _ _ _ _ _ _ _ _ _ _ _ _ => none) (fun _ _ _ _ _ _ _ _ _ _ _ _ => none) (fun _ _ _ _ _ _ _ _ _ _ _ => none) (fun _ _ _ _ _ _ _ _ _ _ _ _ => none) (fun _ _ _ _ _ _ _ _ _ _ => none) (fun _ _ _ _ _ _ _ _ _ _ => none) (fun _ _ _ _ _ _ _ _ _ _ _ => none) () (fun _ _ _ _ => ())
def condR (xf : TmF) (a b : CdF) (en : Env) (n : Nat) (kn : KN) (kx : KX) (tm : Tr FV) (sz : Nat) (hp : FHeap) (nx : Nat) : Rs := ifVR (xf.f tm) a b en n kn kx tm sz hp nx
def leaveR (id : Nat) (kn : KN) (kx : KX) (ex : Ex) : KN := @Ex.rec (fun _ => Nat → KN → KX → Tr FV → Nat → FHeap → Nat → Rs) (fun _ kn _ => kn) (fun i id kn kx => Bool.rec (motive := fun _ => KN) (kx (.exit i)) kn (Nat.beq i id)) (fun _ _ kx => kx .ret) ex id kn kx
def blockR (id : Nat) (a : CdF) (en : Env) (n : Nat) (kn : KN) (kx : KX) (tm : Tr FV) (sz : Nat) (hp : FHeap) (nx : Nat) : Rs := a.f en n kn (leaveR id kn kx) tm sz hp nx
def roundsR (body : KN → KX → Tr FV → Nat → FHeap → Nat → Rs) (n : Nat) : KN → KX → Tr FV → Nat → FHeap → Nat → Rs := Nat.rec (motive := fun _ => KN → KX → Tr FV → Nat → FHeap → Nat → Rs) (fun _ _ _ _ _ _ => none) (fun _ ih kn kx => body (ih kn kx) kx) n
def loopR (a : CdF) (en : Env) (n : Nat) (kn : KN) (kx : KX) (tm : Tr FV) (sz : Nat) (hp : FHeap) (nx : Nat) : Rs := roundsR (a.f en n) n kn kx tm sz hp nx
def exitR (ex : Ex) (_ : Env) (_ : Nat) (_ : KN) (kx : KX) (tm : Tr FV) (sz : Nat) (hp : FHeap) (nx : Nat) : Rs := kx ex tm sz hp nx
def rangeFR (xf : TmF) (ps : List Nat) (asg bd : DCode) (en : Env) (_ : Nat) (kn : KN) (kx : KX) (tm : Tr FV) (sz : Nat) (hp : FHeap) (nx : Nat) : Rs := foldQ (rangeV (xf.f tm) en.cl ps asg bd tm sz hp nx) kn kx

def compER : DCode → CdF :=
  @DCode.rec (fun _ => CdF) (.mk skipR) (fun ops => .mk (regR (klen ops) (compOpsR ops))) (fun ops chk => .mk (regCR (klen ops) ops chk)) (fun _ _ a b => .mk (seqR a b)) (fun c _ _ a b => .mk (condR (compX c) a b)) (fun id _ a => .mk (blockR id a)) (fun _ a => .mk (loopR a)) (fun id => .mk (exitR (.exit id))) (.mk (exitR .ret)) (fun g ps asg bd _ _ => .mk (rangeFR (compX g) ps asg bd)) (.mk (deepR .fail))

theorem roundsR_eq (body : KN → KX → Tr FV → Nat → FHeap → Nat → Rs) (bd : FRunner) (h : ∀ kn kx tm sz hp nx, body kn kx tm sz hp nx = foldK (bd ⟨tm, sz, hp, nx⟩) kn kx) : ∀ (n : Nat) (kn : KN) (kx : KX) (tm : Tr FV) (sz : Nat) (hp : FHeap) (nx : Nat), roundsR body n kn kx tm sz hp nx = foldK (loopK bd n ⟨tm, sz, hp, nx⟩) kn kx
  | 0, _, _, _, _, _, _ => rfl
  | n + 1, kn, kx, tm, sz, hp, nx => by
    show body (roundsR body n kn kx) kx tm sz hp nx = foldK (match bd ⟨tm, sz, hp, nx⟩ with | some (.normal, s') => loopK bd n s' | r => r) kn kx
    rw [h]
    cases bd ⟨tm, sz, hp, nx⟩ with
    | none => rfl
    | some p =>
      obtain ⟨ex, s⟩ := p
      cases ex with
      | normal => exact roundsR_eq body bd h n kn kx s.tm s.sz s.hp s.nx
      | _ => rfl

theorem compER_eq (en : Env) (n : Nat) : ∀ (c : DCode) (kn : KN) (kx : KX) (tm : Tr FV) (sz : Nat) (hp : FHeap) (nx : Nat), (compER c).f en n kn kx tm sz hp nx = foldK (execK en.fc en.tb en.cl (fun b => loopK b n) c ⟨tm, sz, hp, nx⟩) kn kx
  | .skip, _, _, _, _, _, _ => rfl
  | .region ops, kn, kx, tm, sz, hp, nx => by
    show (compOpsR ops).f en kn nx tm sz hp (Nat.add nx (klen ops)) = foldK (Option.rec (motive := fun _ => Option (Ex × FSt)) none (fun s => some (.normal, s)) (runOpsK en.fc en.tb en.cl ops nx ⟨tm, sz, hp, Nat.add nx (klen ops)⟩)) kn kx
    rw [compOpsR_eq]
    cases runOpsK en.fc en.tb en.cl ops nx ⟨tm, sz, hp, Nat.add nx (klen ops)⟩ <;> rfl
  | .regionC ops chk, kn, kx, tm, sz, hp, nx => regCR_eq ops chk en n kn kx tm sz hp nx
  | .seq a b, kn, kx, tm, sz, hp, nx => by
    show (compER a).f en n ((compER b).f en n kn kx) kx tm sz hp nx = foldK (match execK en.fc en.tb en.cl (fun b => loopK b n) a ⟨tm, sz, hp, nx⟩ with | some (.normal, s) => execK en.fc en.tb en.cl (fun b => loopK b n) b s | r => r) kn kx
    rw [compER_eq en n a]
    cases execK en.fc en.tb en.cl (fun b => loopK b n) a ⟨tm, sz, hp, nx⟩ with
    | none => rfl
    | some p =>
      obtain ⟨ex, s⟩ := p
      cases ex with
      | normal => exact compER_eq en n b kn kx s.tm s.sz s.hp s.nx
      | _ => rfl
  | .cond c a b, kn, kx, tm, sz, hp, nx => by
    show ifVR ((compX c).f tm) (compER a) (compER b) en n kn kx tm sz hp nx = foldK (match opndK tm c with | .d (.bool t) => Bool.rec (motive := fun _ => FRunner) (execK en.fc en.tb en.cl (fun b => loopK b n) b) (execK en.fc en.tb en.cl (fun b => loopK b n) a) t ⟨tm, sz, hp, nx⟩ | _ => none) kn kx
    rw [compX_eq]
    cases opndK tm c with
    | d t =>
      cases t with
      | bool t =>
        cases t with
        | false => exact compER_eq en n b kn kx tm sz hp nx
        | true => exact compER_eq en n a kn kx tm sz hp nx
      | _ => rfl
    | _ => rfl
  | .block id c, kn, kx, tm, sz, hp, nx => by
    show (compER c).f en n kn (leaveR id kn kx) tm sz hp nx = foldK (match execK en.fc en.tb en.cl (fun b => loopK b n) c ⟨tm, sz, hp, nx⟩ with | some (.exit i, s) => bif Nat.beq i id then some (.normal, s) else some (.exit i, s) | r => r) kn kx
    rw [compER_eq en n c]
    cases execK en.fc en.tb en.cl (fun b => loopK b n) c ⟨tm, sz, hp, nx⟩ with
    | none => rfl
    | some p =>
      obtain ⟨ex, s⟩ := p
      cases ex with
      | exit i =>
        show Bool.rec (motive := fun _ => KN) (kx (.exit i)) kn (Nat.beq i id) s.tm s.sz s.hp s.nx = foldK (bif Nat.beq i id then some (.normal, s) else some (.exit i, s)) kn kx
        cases Nat.beq i id <;> rfl
      | _ => rfl
  | .loop c, kn, kx, tm, sz, hp, nx => roundsR_eq _ _ (fun kn kx tm sz hp nx => compER_eq en n c kn kx tm sz hp nx) n kn kx tm sz hp nx
  | .exit id, _, _, _, _, _, _ => rfl
  | .ret, _, _, _, _, _, _ => rfl
  | .rangeFunc g ps asg bd, kn, kx, tm, sz, hp, nx => by
    show foldQ (rangeV ((compX g).f tm) en.cl ps asg bd tm sz hp nx) kn kx = _
    rw [foldQ_eq]
    have e := congrFun (compE_eq en.fc en.tb en.cl (fun b => loopK b n) (.rangeFunc g ps asg bd)) ⟨tm, sz, hp, nx⟩
    rw [← e]
    rfl
  | .fail, _, _, _, _, _, _ => rfl

/-! ### Functions and rounds -/

def finN (rs : List DRes) (tm : Tr FV) (_ : Nat) (hp : FHeap) (nx : Nat) : Rs := giveQ (resL hp tm rs) hp nx
def finX (rs : List DRes) (ex : Ex) : KN := @Ex.rec (fun _ => List DRes → Tr FV → Nat → FHeap → Nat → Rs) finN (fun _ _ _ _ _ _ => none) finN ex rs

theorem finK_eq (fn : DFunc) (r : Option (Ex × FSt)) : foldK r (finN fn.results) (finX fn.results) = finishK fn r := by
  rw [← finishQ_eq]
  cases r with
  | none => rfl
  | some p =>
    obtain ⟨ex, s⟩ := p
    cases ex <;> rfl

structure FcF where
  f : Env → Nat → List FV → FHeap → Nat → Rs

def bodyR (rs : List DRes) (m : Nat) (c : CdF) (en : Env) (n : Nat) (args : List FV) (hp : FHeap) (nx : Nat) : Rs := Bool.rec (motive := fun _ => Rs) none (c.f en n (finN rs) (finX rs) (putAllQ args 0 .nil) m hp nx) (Nat.ble (vlen args) m)
def compFR : DFunc → FcF := @DFunc.rec (fun _ => FcF) (fun m rs body => .mk (bodyR rs m (compER body)))
def noneR (_ : Env) (_ : Nat) (_ : List FV) (_ : FHeap) (_ : Nat) : Rs := none
def compFOR (x : Option DFunc) : FcF := @Option.rec DFunc (fun _ => FcF) (.mk noneR) compFR x

theorem compFOR_eq (en : Env) (n : Nat) (x : Option DFunc) (args : List FV) (h : FHeap) (nx : Nat) : (compFOR x).f en n args h nx = callK en.fc en.tb en.cl (fun b => loopK b n) x args h nx := by
  cases x with
  | none => rfl
  | some fn =>
    show Bool.rec (motive := fun _ => Rs) none ((compER fn.body).f en n (finN fn.results) (finX fn.results) (putAllQ args 0 .nil) fn.ntmps h nx) (Nat.ble (vlen args) fn.ntmps) = (match (bif Nat.ble (klen args) fn.ntmps then some { tm := putAllK args 0 .nil, sz := fn.ntmps, hp := h, nx := nx } else none) with | some s => finishK fn (execK en.fc en.tb en.cl (fun b => loopK b n) fn.body s) | none => none)
    rw [compER_eq, finK_eq, putAllQ_eq, vlen_eq]
    cases Nat.ble (klen args) fn.ntmps <;> rfl

def endNR (b : Nat) (_ : Tr FV) (_ : Nat) (hp : FHeap) (nx : Nat) : Rs := endR (busyQ (hGet (pq b) hp)) .normal b hp nx
def endXR (b : Nat) (ex : Ex) (_ : Tr FV) (_ : Nat) (hp : FHeap) (nx : Nat) : Rs := endR (busyQ (hGet (pq b) hp)) ex b hp nx
theorem endR_eq (b : Nat) (r : Option (Ex × FSt)) : foldK r (endNR b) (endXR b) = endF b r := by
  rw [← endQ_eq]
  cases r with
  | none => rfl
  | some p =>
    obtain ⟨ex, s⟩ := p
    cases ex <;> rfl

def beginRR (x : Option Rec) (c : CdF) (b : Nat) (en : Env) (n : Nat) (tm : Tr FV) (sz : Nat) (hp : FHeap) (nx : Nat) : Rs :=
  @Option.rec Rec (fun _ => CdF → Nat → Env → Nat → Tr FV → Nat → FHeap → Nat → Rs) (fun _ _ _ _ _ _ _ _ => none) (fun r c b en n tm sz hp nx => c.f en n (endNR b) (endXR b) tm sz (hPut (some (.loop .busy r.tm r.sz r.ps r.asg r.bd)) (pq b) hp) nx) x c b en n tm sz hp nx
def beginNR (c : CdF) (b : Nat) (en : Env) (n : Nat) (tm : Tr FV) (sz : Nat) (hp : FHeap) (nx : Nat) : Rs := beginRR (readyQ (hGet (pq b) hp)) c b en n tm sz hp nx
def noX (_ : Ex) (_ : Tr FV) (_ : Nat) (_ : FHeap) (_ : Nat) : Rs := none
theorem beginNR_eq (en : Env) (n : Nat) (bd : DCode) (b : Nat) (r : Option (Ex × FSt)) : foldK r (beginNR (compER bd) b en n) noX = beginF b (execK en.fc en.tb en.cl (fun b => loopK b n) bd) r := by
  rw [← beginQ_eq]
  cases r with
  | none => rfl
  | some p =>
    obtain ⟨ex, s⟩ := p
    cases ex with
    | normal =>
      show beginRR (readyQ (hGet (pq b) s.hp)) (compER bd) b en n s.tm s.sz s.hp s.nx = beginR (readyQ (hGet (pq b) s.hp)) b (execK en.fc en.tb en.cl (fun b => loopK b n) bd) s.tm s.sz s.hp s.nx
      cases readyQ (hGet (pq b) s.hp) with
      | none => rfl
      | some r =>
        show (compER bd).f en n (endNR b) (endXR b) s.tm s.sz (hPut (some (.loop .busy r.tm r.sz r.ps r.asg r.bd)) (pq b) s.hp) s.nx = endQ b (execK en.fc en.tb en.cl (fun b => loopK b n) bd ⟨s.tm, s.sz, hPut (some (.loop .busy r.tm r.sz r.ps r.asg r.bd)) (pq b) s.hp, s.nx⟩)
        rw [compER_eq, endR_eq, endQ_eq]
    | _ => rfl

def roundTR (x : Option (Tr FV)) (r : Rec) (b : Nat) (en : Env) (n : Nat) (h : FHeap) (nx : Nat) : Rs :=
  @Option.rec (Tr FV) (fun _ => Rec → Nat → Env → Nat → FHeap → Nat → Rs) (fun _ _ _ _ _ _ => none) (fun tm r b en n h nx => (compER r.asg).f en n (beginNR (compER r.bd) b en n) noX tm r.sz h nx) x r b en n h nx
def roundRR (x : Option Rec) (b : Nat) (en : Env) (n : Nat) (args : List FV) (h : FHeap) (nx : Nat) : Rs :=
  @Option.rec Rec (fun _ => Nat → Env → Nat → List FV → FHeap → Nat → Rs) (fun _ _ _ _ _ _ => none)
    (fun r b en n args h nx => Bool.rec (motive := fun _ => Rs) none (Bool.rec (motive := fun _ => Rs) none (roundTR (setAllQ r.sz r.ps args r.tm) r b en n h nx) (underQ r.tm r.sz)) (Nat.beq (vlen args) (nlen r.ps))) x b en n args h nx
def roundQR (b : Nat) (en : Env) (n : Nat) (args : List FV) (h : FHeap) (nx : Nat) : Rs := roundRR (readyQ (hGet (pq b) h)) b en n args h nx

theorem roundQR_eq (b : Nat) (en : Env) (n : Nat) (args : List FV) (h : FHeap) (nx : Nat) : roundQR b en n args h nx = roundF b (execK en.fc en.tb en.cl (fun b => loopK b n)) args h nx := by
  rw [← roundQ_eq]
  unfold roundQR roundQ
  cases readyQ (hGet (pq b) h) with
  | none => rfl
  | some r =>
    show Bool.rec (motive := fun _ => Rs) none (Bool.rec (motive := fun _ => Rs) none (roundTR (setAllQ r.sz r.ps args r.tm) r b en n h nx) (underQ r.tm r.sz)) (Nat.beq (vlen args) (nlen r.ps)) = Bool.rec (motive := fun _ => Rs) none (Bool.rec (motive := fun _ => Rs) none (roundT (setAllQ r.sz r.ps args r.tm) r b (execK en.fc en.tb en.cl (fun b => loopK b n)) h nx) (underQ r.tm r.sz)) (Nat.beq (vlen args) (nlen r.ps))
    have e : roundTR (setAllQ r.sz r.ps args r.tm) r b en n h nx = roundT (setAllQ r.sz r.ps args r.tm) r b (execK en.fc en.tb en.cl (fun b => loopK b n)) h nx := by
      cases setAllQ r.sz r.ps args r.tm with
      | none => rfl
      | some tm =>
        show (compER r.asg).f en n (beginNR (compER r.bd) b en n) noX tm r.sz h nx = beginQ b (execK en.fc en.tb en.cl (fun b => loopK b n) r.bd) (execK en.fc en.tb en.cl (fun b => loopK b n) r.asg ⟨tm, r.sz, h, nx⟩)
        rw [compER_eq, beginNR_eq, beginQ_eq]
    rw [e]

def tgtR : Tgt → Funcs → Env → Nat → List FV → FHeap → Nat → Rs :=
  @Tgt.rec (fun _ => Funcs → Env → Nat → List FV → FHeap → Nat → Rs) (fun f fs en n args h nx => (compFOR (fs f)).f en n args h nx) (fun b _ en n args h nx => roundQR b en n args h nx)

def runR (fc : Facts) (tb : Tbl) (fs : Funcs) (n : Nat) : FCaller :=
  Nat.rec (motive := fun _ => FCaller) (fun _ _ _ _ => none) (fun n ih t args h nx => tgtR t fs ⟨fc, tb, ih⟩ n args h nx) n

theorem runR_eq (fc : Facts) (tb : Tbl) (fs : Funcs) : ∀ n, runR fc tb fs n = runK fc tb fs n
  | 0 => rfl
  | n + 1 => by
    funext t args h nx
    show tgtR t fs ⟨fc, tb, runR fc tb fs n⟩ n args h nx = _
    rw [runR_eq fc tb fs n]
    cases t with
    | fn f => exact compFOR_eq ⟨fc, tb, runK fc tb fs n⟩ n (fs f) args h nx
    | yd b => exact roundQR_eq b ⟨fc, tb, runK fc tb fs n⟩ n args h nx

theorem swift_tb {fc : Facts} {tb : Tbl} {t : FTree} {n f : Nat} {args : List FV} (e : isTrueF (runR fc tb (getK t) n (.fn f) args .nil 0) = true) : isTrueF (runF fc tb t.get n (.fn f) args .nil 0) = true := fast_tb (by rw [← runR_eq]; exact e)

theorem swift_res {fc : Facts} {tb : Tbl} {t : FTree} {n f : Nat} {args : List FV} {r : FV} (e : resF? (runR fc tb (getK t) n (.fn f) args .nil 0) = some r) : resF? (runF fc tb t.get n (.fn f) args .nil 0) = some r := fast_res (by rw [← runR_eq]; exact e)

end
end Go.Df
