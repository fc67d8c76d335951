/- The fast F machine: its code. It runs to what the F machine runs to. No condition. -/
import Derived.Test.YtjnllnigogpagadDfL
namespace Go.Df
open Go.Dv

noncomputable section

/-! ### Freezing -/

def freezeTK (h : FHeap) (n : Nat) : FV → Option FT :=
  Nat.rec (motive := fun _ => FV → Option FT) (fun v => match v with | .d t => some t | _ => none)
    (fun _ ih v =>
      match v with
      | .d t => some t
      | .sl b off len z =>
        match kTget h b with
        | some (.row es) =>
          bif Nat.ble (Nat.add off len) (klen es) then
            match kfreeze (kfreeze ih) (ktake len (kdrop off es)) with
            | some ts => some (.lst z ts)
            | none => none
          else none
        | _ => none
      | .map b =>
        match kTget h b with
        | some (.map kvs) =>
          match kfreeze (fun kv : (Bool × List FT) × FV => (kfreeze ih (cellsK kv.2)).map fun x => (kv.1, (kv.2.isAgg, x))) kvs with
          | some ts => some (.imap ts)
          | none => none
        | _ => none
      | _ => none) n

theorem freezeTK_eq (h : FHeap) : ∀ n, freezeTK h n = freezeTF h n
  | 0 => by funext v; cases v <;> rfl
  | n + 1 => by
    funext v
    have ih := freezeTK_eq h n
    have unf : freezeTK h (n + 1) v = (match v with
      | .d t => some t
      | .sl b off len z =>
        match kTget h b with
        | some (.row es) =>
          bif Nat.ble (Nat.add off len) (klen es) then
            match kfreeze (kfreeze (freezeTK h n)) (ktake len (kdrop off es)) with
            | some ts => some (.lst z ts)
            | none => none
          else none
        | _ => none
      | .map b =>
        match kTget h b with
        | some (.map kvs) =>
          match kfreeze (fun kv : (Bool × List FT) × FV => (kfreeze (freezeTK h n) (cellsK kv.2)).map fun x => (kv.1, (kv.2.isAgg, x))) kvs with
          | some ts => some (.imap ts)
          | none => none
        | _ => none
      | _ => none) := rfl
    rw [unf, ih]
    have e1 : kfreeze (kfreeze (freezeTF h n)) = freezeList (freezeList (freezeTF h n)) := by
      funext l; rw [kfreeze_eq]; congr 1; funext m; exact kfreeze_eq _ _
    have e2 : (fun kv : (Bool × List FT) × FV => (kfreeze (freezeTF h n) (cellsK kv.2)).map fun x => (kv.1, (kv.2.isAgg, x))) = (fun kv => (freezeList (freezeTF h n) kv.2.cells).map fun x => (kv.1, (kv.2.isAgg, x))) := by
      funext kv; rw [kfreeze_eq, cellsK_eq]
    rw [e2]
    cases v with
    | sl b off len z =>
      simp only [kTget_eq, e1, ktake_eq, kdrop_eq, klen_eq, freezeTF]
      cases h.get b with
      | none => rfl
      | some y =>
        cases y with
        | row es =>
          simp only
          exact bif_iff ble_iff _ _
        | _ => rfl
    | map b =>
      simp only [kTget_eq, kfreeze_eq, freezeTF] <;> rfl
    | _ => rfl

def freezeLeafK (h : FHeap) (v : FV) : Option FV :=
  match freezeTK h depth v with
  | some t => some (.d t)
  | none => none

theorem freezeLeafK_eq (h : FHeap) : freezeLeafK h = freezeLeafF h := by
  funext v; simp only [freezeLeafK, freezeLeafF, freezeTK_eq] <;> rfl

def freezeAggK (h : FHeap) (v : FV) : Option FV :=
  match v with
  | .agg cs =>
    match kfreeze (freezeLeafK h) cs with
    | some ts => some (.agg ts)
    | none => none
  | .raw _ => none
  | v => freezeLeafK h v

theorem freezeAggK_eq (h : FHeap) : freezeAggK h = freezeAggF h := by
  funext v
  cases v <;> simp only [freezeAggK, freezeAggF, freezeLeafK_eq, kfreeze_eq] <;> rfl

def freezeVK (h : FHeap) (v : FV) : Option FV :=
  match v with
  | .tup vs =>
    match kfreeze (freezeAggK h) vs with
    | some ts => some (.tup ts)
    | none => none
  | .raw _ => none
  | v => freezeAggK h v

theorem freezeVK_eq (h : FHeap) (v : FV) : freezeVK h v = freezeVF h v := by
  cases v <;> simp only [freezeVK, freezeVF, freezeAggK_eq, kfreeze_eq] <;> rfl

def lendLeafK (h : FHeap) (v : FV) : Option FV :=
  match v with
  | .ptr b i j =>
    match kTget h b with
    | some (.row es) =>
      match kget es i with
      | some cs =>
        match kfreeze (freezeTK h depth) cs with
        | some ts => some (.iptr ts j)
        | none => none
      | none => none
    | _ => none
  | .iptr cs j => some (.iptr cs j)
  | .raw _ => none
  | v => freezeLeafK h v

theorem lendLeafK_eq (h : FHeap) : lendLeafK h = lendLeafF h := by
  funext v
  cases v <;> simp only [lendLeafK, lendLeafF, freezeLeafK_eq, freezeTK_eq, kfreeze_eq, kTget_eq, kget_eq] <;> rfl

def lendK (h : FHeap) (v : FV) : Option FV :=
  match v with
  | .agg cs =>
    match kfreeze (lendLeafK h) cs with
    | some ts => some (.agg ts)
    | none => none
  | .raw _ => none
  | v => lendLeafK h v

theorem lendK_eq (h : FHeap) : lendK h = lendF h := by
  funext v
  cases v <;> simp only [lendK, lendF, lendLeafK_eq, kfreeze_eq] <;> rfl

/-! ### Steps -/

def opndK (tm : Tr FV) (x : DOpnd) : FV :=
  match x with
  | .tmp t => Option.rec (motive := fun _ => FV) .undef (fun v => v) (kTget tm t)
  | .const v => liftV v

theorem opndK_eq (tm : Tr FV) : opndK tm = opndF tm := by
  funext x
  cases x with
  | tmp t => simp only [opndK, opndF, kTget_eq]; cases tm.get t <;> rfl
  | const v => rfl

def putK (s : FSt) (dst : Option Nat) (v : FV) : Option FSt :=
  match dst with
  | some d => bif Nat.blt d s.sz then some { s with tm := kTput s.tm d (some v) } else none
  | none => some s

theorem putK_eq (s : FSt) (dst : Option Nat) (v : FV) : putK s dst v = putF s dst v := by
  cases dst with
  | none => rfl
  | some d => simp only [putK, putF, kTput_eq]; exact bif_iff Iff.rfl _ _

def wantedK (g : Option (Nat × Bool)) : Tr FV → Bool :=
  match g with
  | none => fun _ => true
  | some (t, want) => fun tm =>
    match kTget tm t with
    | some v => match boolOf v with
      | some b => b == want
      | none => false
    | none => false

theorem wantedK_eq (g : Option (Nat × Bool)) (tm : Tr FV) : wantedK g tm = wantedF g tm := by
  cases g with
  | none => rfl
  | some p =>
    obtain ⟨t, w⟩ := p
    simp only [wantedK, wantedF, kTget_eq]
    cases tm.get t <;> rfl

def pcallK (tb : Tbl) (cl : FCaller) (f : Nat) (args : List FV) : Option FV :=
  match tbFind tb f args with
  | some r => some r
  | none =>
    match cl (.fn f) args .nil 0 with
    | some (v, h, _) => freezeVK h v
    | none => none

theorem pcallK_eq (tb : Tbl) (cl : FCaller) (f : Nat) (args : List FV) : pcallK tb cl f args = pcallF tb cl f args := by
  simp only [pcallK, pcallF, freezeVK_eq] <;> rfl

def callPureK (tb : Tbl) (cl : FCaller) (mode : Nat) (h : FHeap) (f : Nat) (args : List FV) : Option FV :=
  bif kall FV.closed args then pcallK tb cl f args
  else bif Nat.beq mode 1 then
    match kfreeze (lendK h) args with
    | some as =>
      match pcallK tb cl f as with
      | some v => bif v.flat then some v else none
      | none => none
    | none => none
  else none

theorem callPureK_eq (tb : Tbl) (cl : FCaller) (mode : Nat) (h : FHeap) (f : Nat) (args : List FV) : callPureK tb cl mode h f args = callPureF tb cl mode h f args := by
  simp only [callPureK, callPureF, kall_eq, pcallK_eq, lendK_eq, kfreeze_eq]
  rw [bif_iff (p := args.all FV.closed = true) Iff.rfl, bif_iff (p := mode = 1) beq_iff]
  split
  · rfl
  · split
    · cases freezeList (lendF h) args with
      | none => rfl
      | some as =>
        simp only
        cases pcallF tb cl f as with
        | none => rfl
        | some v => exact bif_iff Iff.rfl _ _
    · rfl

def opStepK (op : DOp) : Facts → Tbl → FCaller → Nat → Option Nat → FSt → Option FSt :=
  match op with
  | .call mode f args => fun _ tb cl _ dst s =>
    bif Nat.beq mode 0 then
      match cl (.fn f) (kmap (opndK s.tm) args) s.hp s.nx with
      | some (v, h, n) => putK { s with hp := h, nx := n } dst v
      | none => none
    else
      match callPureK tb cl mode s.hp f (kmap (opndK s.tm) args) with
      | some v => putK s dst v
      | none => none
  | .callv x args => fun _ _ cl _ dst s =>
    match opndK s.tm x with
    | .fn f caps =>
      match cl (.fn f) (kapp (kmap (opndK s.tm) args) caps) s.hp s.nx with
      | some (v, h, n) => putK { s with hp := h, nx := n } dst v
      | none => none
    | .yield b =>
      match cl (.yd b) (kmap (opndK s.tm) args) s.hp s.nx with
      | some (v, h, n) => putK { s with hp := h, nx := n } dst v
      | none => none
    | _ => none
  | op => fun fc _ _ fr dst s =>
    match evalK op fc (opndK s.tm) s.hp fr with
    | some (v, h) => putK { s with hp := h } dst v
    | none => none

def stepK (fc : Facts) (tb : Tbl) (cl : FCaller) (fr : Nat) (o : DOper) (s : FSt) : Option FSt :=
  bif wantedK o.guard s.tm then opStepK o.op fc tb cl fr o.dst s else putK s o.dst .undef

theorem stepK_eq (fc : Facts) (tb : Tbl) (cl : FCaller) (fr : Nat) (o : DOper) (s : FSt) : stepK fc tb cl fr o s = stepF fc tb cl fr o s := by
  unfold stepK stepF
  rw [bif_iff (p := wantedF o.guard s.tm = true) (by rw [wantedK_eq])]
  by_cases hw : wantedF o.guard s.tm = true
  · rw [if_pos hw, if_pos hw]
    cases o.op with
    | call mode f args =>
      simp only [opStepK, kmap_eq, opndK_eq, putK_eq, callPureK_eq]
      rw [bif_iff (p := mode = 0) beq_iff] <;> rfl
    | callv x args =>
      simp only [opStepK, kmap_eq, opndK_eq, putK_eq, kapp_eq] <;> rfl
    | _ => simp only [opStepK, opndK_eq, putK_eq, evalK_eq] <;> rfl
  · rw [if_neg hw, if_neg hw]
    exact putK_eq _ _ _

def runOpsK (fc : Facts) (tb : Tbl) (cl : FCaller) (ops : List DOper) : Nat → FSt → Option FSt :=
  List.rec (motive := fun _ => Nat → FSt → Option FSt) (fun _ s => some s) (fun o _ ih base s => Option.rec (motive := fun _ => Option FSt) none (fun s => ih (Nat.succ base) s) (stepK fc tb cl base o s)) ops

theorem runOpsK_eq (fc : Facts) (tb : Tbl) (cl : FCaller) : ∀ (ops : List DOper) (base : Nat) (s : FSt), runOpsK fc tb cl ops base s = runOpsF fc tb cl base ops s
  | [], base, s => rfl
  | o :: rest, base, s => by
    show Option.rec (motive := fun _ => Option FSt) none (fun s => runOpsK fc tb cl rest (base + 1) s) (stepK fc tb cl base o s) = _
    rw [stepK_eq]
    simp only [runOpsF]
    cases stepF fc tb cl base o s with
    | none => rfl
    | some s1 => exact runOpsK_eq fc tb cl rest (base + 1) s1

def runCK (fc : Facts) (tb : Tbl) (cl : FCaller) (ops : List DOper) (chk : List (Nat × Nat)) (base : Nat) (l : List DOper) : Nat → FSt → Option (FSt × List (List Nat × Mask)) :=
  List.rec (motive := fun _ => Nat → FSt → Option (FSt × List (List Nat × Mask))) (fun _ s => some (s, [])) (fun o _ ih k s =>
    match stepK fc (tbOf tb (maskOfF ops chk base k s.tm)) (maskF cl (maskOfF ops chk base k s.tm)) (Nat.add base k) o s with
    | some s1 =>
      match ih (Nat.succ k) s1 with
      | some (s', l) => some (s', (stepKeysF o s.tm, maskOfF ops chk base k s.tm) :: l)
      | none => none
    | none => none) l

theorem runCK_eq (fc : Facts) (tb : Tbl) (cl : FCaller) (ops : List DOper) (chk : List (Nat × Nat)) (base : Nat) : ∀ (l : List DOper) (k : Nat) (s : FSt), runCK fc tb cl ops chk base l k s = runCF fc tb cl ops chk base k l s
  | [], k, s => rfl
  | o :: rest, k, s => by
    show (match stepK fc (tbOf tb (maskOfF ops chk base k s.tm)) (maskF cl (maskOfF ops chk base k s.tm)) (Nat.add base k) o s with
      | some s1 =>
        (match runCK fc tb cl ops chk base rest (k + 1) s1 with
        | some (s', l) => some (s', (stepKeysF o s.tm, maskOfF ops chk base k s.tm) :: l)
        | none => none)
      | none => none) = _
    rw [stepK_eq]
    simp only [runCF]
    show (match stepF fc (tbOf tb (maskOfF ops chk base k s.tm)) (maskF cl (maskOfF ops chk base k s.tm)) (base + k) o s with
      | some s1 =>
        (match runCK fc tb cl ops chk base rest (k + 1) s1 with
        | some (s', l) => some (s', (stepKeysF o s.tm, maskOfF ops chk base k s.tm) :: l)
        | none => none)
      | none => none) = _
    cases stepF fc (tbOf tb (maskOfF ops chk base k s.tm)) (maskF cl (maskOfF ops chk base k s.tm)) (base + k) o s with
    | none => rfl
    | some s1 =>
      simp only [runCK_eq fc tb cl ops chk base rest (k + 1) s1] <;> rfl

def loopK (body : FRunner) (n : Nat) : FRunner :=
  Nat.rec (motive := fun _ => FRunner) (fun _ => none) (fun _ ih s =>
    match body s with
    | some (.normal, s') => ih s'
    | r => r) n

theorem loopK_eq (body : FRunner) : ∀ n, loopK body n = loopF body n
  | 0 => rfl
  | n + 1 => by
    funext s
    show (match body s with | some (.normal, s') => loopK body n s' | r => r) = _
    rw [loopK_eq body n]
    rfl

def execK (fc : Facts) (tb : Tbl) (cl : FCaller) (lp : FRunner → FRunner) (c : DCode) : FRunner :=
  DCode.rec (motive := fun _ => FRunner)
    (fun s => some (.normal, s))
    (fun ops s => Option.rec (motive := fun _ => Option (Ex × FSt)) none (fun s => some (.normal, s)) (runOpsK fc tb cl ops s.nx { s with nx := Nat.add s.nx (klen ops) }))
    (fun ops chk s =>
      match runCK fc tb cl ops chk s.nx ops 0 { s with nx := Nat.add s.nx (klen ops) } with
      | some (s', l) => bif chk.all (pairOk ops l) then some (.normal, s') else none
      | none => none)
    (fun _ _ ra rb s =>
      match ra s with
      | some (.normal, s) => rb s
      | r => r)
    (fun c _ _ ra rb s =>
      match opndK s.tm c with
      | .d (.bool t) => Bool.rec (motive := fun _ => FRunner) rb ra t s
      | _ => none)
    (fun id _ rc s =>
      match rc s with
      | some (.exit i, s) => bif Nat.beq i id then some (.normal, s) else some (.exit i, s)
      | r => r)
    (fun _ rc s => lp rc s)
    (fun id s => some (.exit id, s))
    (fun s => some (.ret, s))
    (fun g ps asg bd _ _ s =>
      match opndK s.tm g with
      | .fn f caps =>
        match cl (.fn f) (.yield s.nx :: caps) (kTput s.hp s.nx (some (.loop .ready s.tm s.sz ps asg bd))) (Nat.succ s.nx) with
        | some (_, h, n) =>
          match kTget h s.nx with
          | some (.loop .ready ..) => some (.normal, { s with hp := kTput h s.nx none, nx := n })
          | some (.loop (.done ex) ..) => some (ex, { s with hp := kTput h s.nx none, nx := n })
          | _ => none
        | none => none
      | _ => none)
    (fun _ => none) c

theorem execK_eq (fc : Facts) (tb : Tbl) (cl : FCaller) (lp : FRunner → FRunner) : ∀ c, execK fc tb cl lp c = execF fc tb cl lp c
  | .skip => rfl
  | .region ops => by
    funext s
    show Option.rec (motive := fun _ => Option (Ex × FSt)) none (fun s => some (Ex.normal, s)) (runOpsK fc tb cl ops s.nx { s with nx := Nat.add s.nx (klen ops) }) = _
    rw [runOpsK_eq, klen_eq]
    simp only [execF]
    show Option.rec (motive := fun _ => Option (Ex × FSt)) none (fun s => some (Ex.normal, s)) (runOpsF fc tb cl s.nx ops { s with nx := s.nx + ops.length }) = _
    cases runOpsF fc tb cl s.nx ops { s with nx := s.nx + ops.length } <;> rfl
  | .regionC ops chk => by
    funext s
    show (match runCK fc tb cl ops chk s.nx ops 0 { s with nx := Nat.add s.nx (klen ops) } with
      | some (s', l) => bif chk.all (pairOk ops l) then some (Ex.normal, s') else none
      | none => none) = _
    rw [runCK_eq, klen_eq]
    simp only [execF]
    show (match runCF fc tb cl ops chk s.nx 0 ops { s with nx := s.nx + ops.length } with
      | some (s', l) => bif chk.all (pairOk ops l) then some (Ex.normal, s') else none
      | none => none) = _
    cases runCF fc tb cl ops chk s.nx 0 ops { s with nx := s.nx + ops.length } with
    | none => rfl
    | some p => exact bif_iff Iff.rfl _ _
  | .seq a b => by
    funext s
    show (match execK fc tb cl lp a s with | some (Ex.normal, s) => execK fc tb cl lp b s | r => r) = _
    rw [execK_eq fc tb cl lp a, execK_eq fc tb cl lp b]
    rfl
  | .cond c a b => by
    funext s
    show (match opndK s.tm c with | .d (.bool t) => Bool.rec (motive := fun _ => FRunner) (execK fc tb cl lp b) (execK fc tb cl lp a) t s | _ => none) = _
    rw [execK_eq fc tb cl lp a, execK_eq fc tb cl lp b, opndK_eq]
    simp only [execF]
    cases opndF s.tm c with
    | d t =>
      cases t with
      | bool b => cases b <;> rfl
      | _ => rfl
    | _ => rfl
  | .block id c => by
    funext s
    show (match execK fc tb cl lp c s with | some (Ex.exit i, s) => bif Nat.beq i id then some (Ex.normal, s) else some (Ex.exit i, s) | r => r) = _
    rw [execK_eq fc tb cl lp c]
    simp only [execF]
    cases execF fc tb cl lp c s with
    | none => rfl
    | some p =>
      obtain ⟨ex, s1⟩ := p
      cases ex with
      | exit i => exact bif_iff beq_iff _ _
      | _ => rfl
  | .loop c => by
    funext s
    show lp (execK fc tb cl lp c) s = _
    rw [execK_eq fc tb cl lp c]
    rfl
  | .exit id => rfl
  | .ret => rfl
  | .rangeFunc g ps asg bd => by
    funext s
    show (match opndK s.tm g with
      | .fn f caps =>
        (match cl (.fn f) (.yield s.nx :: caps) (kTput s.hp s.nx (some (.loop .ready s.tm s.sz ps asg bd))) (s.nx + 1) with
        | some (_, h, n) =>
          (match kTget h s.nx with
          | some (.loop .ready ..) => some (Ex.normal, { s with hp := kTput h s.nx none, nx := n })
          | some (.loop (.done ex) ..) => some (ex, { s with hp := kTput h s.nx none, nx := n })
          | _ => none)
        | none => none)
      | _ => none) = _
    simp only [opndK_eq, kTput_eq, kTget_eq, execF] <;> rfl
  | .fail => rfl

def resK (h : FHeap) (tm : Tr FV) (r : DRes) : Option FV :=
  match r with
  | .tmp t => some (opndK tm (.tmp t))
  | .cell a n => loadK h n (opndK tm (.tmp a))

theorem resK_eq (h : FHeap) (tm : Tr FV) : resK h tm = resF h tm := by
  funext r
  cases r with
  | tmp t => simp only [resK, opndK_eq] <;> rfl
  | cell a n => simp only [resK, opndK_eq, loadK_eq] <;> rfl

def finishK (fn : DFunc) (r : Option (Ex × FSt)) : Option (FV × FHeap × Nat) :=
  match r with
  | some (.exit _, _) => none
  | some (_, s) =>
    match kfreeze (resK s.hp s.tm) fn.results with
    | some vs => some (tupF vs, s.hp, s.nx)
    | none => none
  | none => none

theorem finishK_eq (fn : DFunc) (r : Option (Ex × FSt)) : finishK fn r = finishF fn r := by
  cases r with
  | none => rfl
  | some p =>
    obtain ⟨ex, s⟩ := p
    cases ex with
    | exit i => rfl
    | _ => simp only [finishK, finishF, kfreeze_eq, resK_eq] <;> rfl

def putAllK (vs : List FV) : Nat → Tr FV → Tr FV :=
  List.rec (motive := fun _ => Nat → Tr FV → Tr FV) (fun _ tm => tm) (fun v _ ih k tm => ih (Nat.succ k) (kTput tm k (some v))) vs

theorem putAllK_eq : ∀ (vs : List FV) (k : Nat) (tm : Tr FV), putAllK vs k tm = putAll vs k tm
  | [], k, tm => rfl
  | v :: vs, k, tm => by
    show putAllK vs (k + 1) (kTput tm k (some v)) = _
    rw [putAllK_eq vs, kTput_eq]; rfl

def enterK (fn : DFunc) (args : List FV) (h : FHeap) (nx : Nat) : Option FSt :=
  bif Nat.ble (klen args) fn.ntmps then some { tm := putAllK args 0 .nil, sz := fn.ntmps, hp := h, nx := nx } else none

theorem enterK_eq (fn : DFunc) (args : List FV) (h : FHeap) (nx : Nat) : enterK fn args h nx = enterF fn args h nx := by
  simp only [enterK, enterF, klen_eq, putAllK_eq]
  exact bif_iff Iff.rfl _ _

def runK (fc : Facts) (tb : Tbl) (fs : Funcs) (n : Nat) : FCaller :=
  Nat.rec (motive := fun _ => FCaller) (fun _ _ _ _ => none) (fun n ih t args h nx =>
    match t with
    | .fn f =>
      match fs f with
      | some fn =>
        match enterK fn args h nx with
        | some s => finishK fn (execK fc tb ih (fun b => loopK b n) fn.body s)
        | none => none
      | none => none
    | .yd b => roundF b (execK fc tb ih (fun b => loopK b n)) args h nx) n

theorem runK_eq (fc : Facts) (tb : Tbl) (fs : Funcs) : ∀ n, runK fc tb fs n = runF fc tb fs n
  | 0 => rfl
  | n + 1 => by
    funext t args h nx
    show (match t with
      | .fn f =>
        (match fs f with
        | some fn =>
          (match enterK fn args h nx with
          | some s => finishK fn (execK fc tb (runK fc tb fs n) (fun b => loopK b n) fn.body s)
          | none => none)
        | none => none)
      | .yd b => roundF b (execK fc tb (runK fc tb fs n) (fun b => loopK b n)) args h nx) = _
    rw [runK_eq fc tb fs n]
    have el : (fun b => loopK b n) = fun b => loopF b n := funext fun b => loopK_eq b n
    have ex : execK fc tb (runF fc tb fs n) (fun b => loopF b n) = execF fc tb (runF fc tb fs n) (fun b => loopF b n) := funext fun c => execK_eq _ _ _ _ c
    rw [el, ex]
    cases t with
    | fn f => simp only [runF, enterK_eq, finishK_eq] <;> rfl
    | yd b => rfl

def getK (t : FTree) : Nat → Option DFunc :=
  FTree.rec (motive := fun _ => Nat → Option DFunc) (fun k d f => bif Nat.beq f k then some d else none) (fun m _ _ gl gr f => Bool.rec (motive := fun _ => Nat → Option DFunc) gr gl (Nat.blt f m) f) t

theorem getK_eq : ∀ t, getK t = t.get
  | .leaf k d => rfl
  | .node m l r => by
    funext f
    show Bool.rec (motive := fun _ => Nat → Option DFunc) (getK r) (getK l) (Nat.blt f m) f = _
    rw [getK_eq l, getK_eq r]
    simp only [FTree.get]
    cases Nat.blt f m <;> rfl

/-- A fast run is a run. -/
theorem fast_tb {fc : Facts} {tb : Tbl} {t : FTree} {n f : Nat} {args : List FV} (e : isTrueF (runK fc tb (getK t) n (.fn f) args .nil 0) = true) : isTrueF (runF fc tb t.get n (.fn f) args .nil 0) = true := by
  rw [← runK_eq, ← getK_eq]
  exact e

theorem fast {fc : Facts} {t : FTree} {n f : Nat} {args : List FV} (e : isTrueF (runK fc [] (getK t) n (.fn f) args .nil 0) = true) : isTrueF (runF fc [] t.get n (.fn f) args .nil 0) = true := fast_tb e

theorem fast_res {fc : Facts} {tb : Tbl} {t : FTree} {n f : Nat} {args : List FV} {r : FV} (e : resF? (runK fc tb (getK t) n (.fn f) args .nil 0) = some r) : resF? (runF fc tb t.get n (.fn f) args .nil 0) = some r := by
  rw [← runK_eq, ← getK_eq]
  exact e

end
end Go.Df
