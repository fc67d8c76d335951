/- The fast F machine: its operations. No condition. -/
import Derived.Test.YtjnllnigogpagadDfK
namespace Go.Df
open Go.Dv

noncomputable section

theorem bif_iff {α : Type} {c : Bool} {p : Prop} [Decidable p] (h : c = true ↔ p) (x y : α) : (bif c then x else y) = if p then x else y := by
  by_cases hp : p
  · rw [if_pos hp, h.2 hp]; rfl
  · rw [if_neg hp]
    cases c with
    | true => exact absurd (h.1 rfl) hp
    | false => rfl

theorem blt_iff {a b : Nat} : Nat.blt a b = true ↔ a < b := by rw [Nat.blt_eq]
theorem ble_iff {a b : Nat} : Nat.ble a b = true ↔ a ≤ b := by rw [Nat.ble_eq]
theorem beq_iff {a b : Nat} : Nat.beq a b = true ↔ a = b := by rw [Nat.beq_eq]

/-! ### Numbers -/

def is64 (k : IntKind) : Bool := match k with | .i64 => true | _ => false

theorem is64_ok {k : IntKind} (h : is64 k = true) : k = .i64 := by cases k <;> simp [is64] at h; rfl

theorem wrap_small {n : Nat} (h : n < 9223372036854775808) : IntKind.i64.wrap (Int.ofNat n) = Int.ofNat n := by
  have h1 : (Int.ofNat n) % (2 ^ 64 : Int) = Int.ofNat n := Int.emod_eq_of_lt (Int.natCast_nonneg n) (by show ((n : Nat) : Int) < _; omega)
  have h2 : ¬ (Int.ofNat n ≥ (2 ^ 63 : Int)) := by show ¬ (((n : Nat) : Int) ≥ _); omega
  show (if (true && decide ((Int.ofNat n) % (2 ^ 64 : Int) ≥ (2 ^ 63 : Int))) = true then (Int.ofNat n) % (2 ^ 64 : Int) - (2 ^ 64 : Int) else (Int.ofNat n) % (2 ^ 64 : Int)) = _
  simp only [h1]
  rw [decide_eq_false h2]
  rfl

def natAdd (k : IntKind) (x y : Nat) : Option FV :=
  bif is64 k && Nat.blt (Nat.add x y) 9223372036854775808 then some (.d (.int k (.lit (.ofNat (Nat.add x y))))) else liftO (intOp .add k (.ofNat x) (.ofNat y))

def natSub (k : IntKind) (x y : Nat) : Option FV :=
  bif is64 k && (Nat.ble y x && Nat.blt x 9223372036854775808) then some (.d (.int k (.lit (.ofNat (Nat.sub x y))))) else liftO (intOp .sub k (.ofNat x) (.ofNat y))

def natOp (op : BinOp) : IntKind → Nat → Nat → Option FV :=
  match op with
  | .add => natAdd
  | .sub => natSub
  | .eql => fun _ x y => some (.d (.bool (Nat.beq x y)))
  | .neq => fun _ x y => some (.d (.bool (not (Nat.beq x y))))
  | .lss => fun _ x y => some (.d (.bool (Nat.blt x y)))
  | .leq => fun _ x y => some (.d (.bool (Nat.ble x y)))
  | .gtr => fun _ x y => some (.d (.bool (Nat.blt y x)))
  | .geq => fun _ x y => some (.d (.bool (Nat.ble y x)))
  | op => fun k x y => liftO (intOp op k (.ofNat x) (.ofNat y))

theorem natOp_eq (op : BinOp) (k : IntKind) (x y : Nat) : natOp op k x y = liftO (intOp op k (.ofNat x) (.ofNat y)) := by
  cases op with
  | add =>
    show natAdd k x y = _
    unfold natAdd
    cases h : is64 k && Nat.blt (Nat.add x y) 9223372036854775808 with
    | false => rfl
    | true =>
      rw [Bool.and_eq_true, blt_iff] at h
      rw [is64_ok h.1]
      simp only [cond_true, intOp, liftO, lift0, liftT]
      rw [show (Int.ofNat x + Int.ofNat y) = Int.ofNat (Nat.add x y) from rfl, wrap_small h.2]
  | sub =>
    show natSub k x y = _
    unfold natSub
    cases h : is64 k && (Nat.ble y x && Nat.blt x 9223372036854775808) with
    | false => rfl
    | true =>
      rw [Bool.and_eq_true, Bool.and_eq_true, blt_iff, ble_iff] at h
      rw [is64_ok h.1]
      have : (Int.ofNat x - Int.ofNat y) = Int.ofNat (Nat.sub x y) := (Int.ofNat_sub h.2.1).symm
      simp only [cond_true, intOp, liftO, lift0, liftT]
      rw [this, wrap_small (by have := Nat.sub_le x y; have h3 := h.2.2; show Nat.sub x y < _; exact Nat.lt_of_le_of_lt this h3)]
  | eql =>
    show some _ = _
    simp only [intOp, liftO, lift0, liftT, V.bool]
    congr 3
    rw [Bool.eq_iff_iff, beq_iff]; simp; omega
  | neq =>
    show some _ = _
    simp only [intOp, liftO, lift0, liftT, V.bool]
    congr 3
    rw [Bool.eq_iff_iff, Bool.not_eq_true', ← Bool.not_eq_true, beq_iff]; simp; omega
  | lss =>
    show some _ = _
    simp only [intOp, liftO, lift0, liftT, V.bool]
    congr 3
    rw [Bool.eq_iff_iff, blt_iff]; simp
  | leq =>
    show some _ = _
    simp only [intOp, liftO, lift0, liftT, V.bool]
    congr 3
    rw [Bool.eq_iff_iff, ble_iff]; simp
  | gtr =>
    show some _ = _
    simp only [intOp, liftO, lift0, liftT, V.bool]
    congr 3
    rw [Bool.eq_iff_iff, blt_iff]; simp
  | geq =>
    show some _ = _
    simp only [intOp, liftO, lift0, liftT, V.bool]
    congr 3
    rw [Bool.eq_iff_iff, ble_iff]; simp
  | _ => rfl

def intOpK (fc : Facts) (op : BinOp) (k : IntKind) (a b : E) : Option FV :=
  match a, b with
  | .lit (.ofNat x), .lit (.ofNat y) => natOp op k x y
  | a, b => intOpF fc op k a b

theorem intOpK_eq (fc : Facts) (op : BinOp) (k : IntKind) (a b : E) : intOpK fc op k a b = intOpF fc op k a b := by
  unfold intOpK
  split
  · rw [natOp_eq]; rfl
  · rfl

def sameK (fc : Facts) (a b : FT) : Option Bool :=
  match a, b with
  | .int _ (.lit (.ofNat x)), .int _ (.lit (.ofNat y)) => some (Nat.beq x y)
  | a, b => sameF fc a b

theorem sameK_eq (fc : Facts) (a b : FT) : sameK fc a b = sameF fc a b := by
  unfold sameK
  split
  · simp only [sameF]
    congr 1
    rw [Bool.eq_iff_iff, beq_iff]; simp; omega
  · rfl

def sameCellsK (fc : Facts) (l : List FT) : List FT → Option Bool :=
  List.rec (motive := fun _ => List FT → Option Bool) (fun bs => match bs with | [] => some true | _ => none)
    (fun a _ ih bs => match bs with
      | [] => none
      | b :: bs =>
        match sameK fc a b with
        | some true => ih bs
        | some false => some false
        | none => none) l

theorem sameCellsK_eq (fc : Facts) : ∀ l m, sameCellsK fc l m = sameCellsF fc l m
  | [], [] => rfl
  | [], _ :: _ => rfl
  | _ :: _, [] => rfl
  | a :: as, b :: bs => by
    show (match sameK fc a b with | some true => sameCellsK fc as bs | some false => some false | none => none) = _
    rw [sameK_eq, sameCellsK_eq fc as bs]; rfl

def okK (s : SK) (t : FT) : Bool :=
  match s with
  | .int k => match t with | .int k' _ => Nat.beq k.ctorIdx k'.ctorIdx | _ => false
  | .str => match t with | .str _ => true | _ => false
  | .bool => match t with | .bool _ => true | _ => false

theorem okK_eq (s : SK) (t : FT) : okK s t = okF s t := by
  cases s with
  | int k =>
    cases t with
    | int k' e =>
      show Nat.beq k.ctorIdx k'.ctorIdx = decide (k = k')
      cases k <;> cases k' <;> rfl
    | _ => rfl
  | _ => cases t <;> rfl

def kindsOkK (ks : List SK) : List FT → Bool :=
  List.rec (motive := fun _ => List FT → Bool) (fun ts => match ts with | [] => true | _ => false)
    (fun k _ ih ts => match ts with | [] => false | t :: ts => bif okK k t then ih ts else false) ks

theorem kindsOkK_eq : ∀ l m, kindsOkK l m = kindsOkF l m
  | [], [] => rfl
  | [], _ :: _ => rfl
  | _ :: _, [] => rfl
  | a :: as, b :: bs => by
    show (bif okK a b then kindsOkK as bs else false) = (okF a b && kindsOkF as bs)
    rw [okK_eq, kindsOkK_eq as bs]
    cases okF a b <;> rfl

def dataCellsK (l : List FV) : Option (List FT) := kfreeze FV.data? l

theorem dataCellsF_eq : ∀ l, dataCellsF l = freezeList FV.data? l
  | [] => rfl
  | v :: vs => by
    simp only [dataCellsF, freezeList, dataCellsF_eq vs]
    cases v.data? with
    | none => rfl
    | some t => cases freezeList FV.data? vs <;> rfl

theorem dataCellsK_eq (l : List FV) : dataCellsK l = dataCellsF l := by rw [dataCellsF_eq]; exact kfreeze_eq _ _

def binK (kd : Kd) : Facts → BinOp → FV → FV → Option FV :=
  match kd with
  | .num => fun fc op x y =>
    match x, y with
    | .d (.int k a), .d (.int k' b) => bif Nat.beq k.ctorIdx k'.ctorIdx then intOpK fc op k a b else none
    | _, _ => none
  | kd => fun fc op x y => binF fc op kd x y

theorem binK_eq (fc : Facts) (op : BinOp) (kd : Kd) (x y : FV) : binK kd fc op x y = binF fc op kd x y := by
  cases kd with
  | num =>
    cases x with
    | d t =>
      cases t with
      | int k a =>
        cases y with
        | d u =>
          cases u with
          | int k' b =>
            simp only [binK, binF]
            rw [bif_iff (p := k = k') (by cases k <;> cases k' <;> simp [IntKind.ctorIdx]), intOpK_eq]
          | _ => rfl
        | _ => rfl
      | _ => rfl
    | _ => rfl
  | _ => rfl

/-! ### Cells and elements -/

def cellsK (v : FV) : List FV :=
  match v with
  | .agg cs => cs
  | .raw v => kmap .raw v.cells
  | v => [v]

theorem cellsK_eq (v : FV) : cellsK v = v.cells := by cases v <;> simp [cellsK, FV.cells, kmap_eq]

def partK (cs : List FV) (off : Nat) (n : Option Nat) : Option FV :=
  match n with
  | none => kget cs off
  | some n => bif Nat.ble (Nat.add off n) (klen cs) then some (.agg (ktake n (kdrop off cs))) else none

theorem partK_eq (cs : List FV) (off : Nat) (n : Option Nat) : partK cs off n = partF cs off n := by
  cases n with
  | none => exact kget_eq _ _
  | some n =>
    simp only [partK, partF, ktake_eq, kdrop_eq, klen_eq]
    exact bif_iff ble_iff _ _

def loadK (h : FHeap) (n : Option Nat) (p : FV) : Option FV :=
  match p with
  | .ptr b i j =>
    match kTget h b with
    | some (.row es) =>
      match kget es i with
      | some cs => partK cs j n
      | none => none
    | _ => none
  | .iptr cs j => partK (kmap .d cs) j n
  | _ => none

theorem loadK_eq (h : FHeap) (n : Option Nat) (p : FV) : loadK h n p = loadF h n p := by
  have e : ∀ cs j, (match n with | none => cs[j]? | some n => if j + n ≤ cs.length then some (FV.agg ((cs.drop j).take n)) else none) = partF cs j n := fun cs j => by cases n <;> rfl
  cases p with
  | ptr b i j =>
    simp only [loadK, loadF, ptrCellsF, kTget_eq, kget_eq, partK_eq]
    cases h.get b with
    | none => rfl
    | some x =>
      cases x with
      | row es =>
        simp only
        cases es[i]? with
        | none => rfl
        | some cs => exact (e cs j).symm
      | _ => rfl
  | iptr cs j =>
    simp only [loadK, loadF, ptrCellsF, kmap_eq, partK_eq]
    exact (e _ j).symm
  | _ => rfl

def storeK (h : FHeap) (n : Nat) (p x : FV) : Option FHeap :=
  match p with
  | .ptr b i j =>
    match kTget h b with
    | some (.row es) =>
      match kget es i with
      | some cs =>
        bif Nat.beq (klen (cellsK x)) n && (Nat.ble (Nat.add j n) (klen cs) && kall FV.one (cellsK x)) then some (kTput h b (some (.row (kset es i (kapp (ktake j cs) (kapp (cellsK x) (kdrop (Nat.add j n) cs))))))) else none
      | none => none
    | _ => none
  | _ => none

theorem storeK_eq (h : FHeap) (n : Nat) (p x : FV) : storeK h n p x = storeF h n p x := by
  cases p with
  | ptr b i j =>
    simp only [storeK, storeF, kTget_eq, kget_eq, kTput_eq, kset_eq, kapp_eq, ktake_eq, kdrop_eq, klen_eq, kall_eq, cellsK_eq]
    cases h.get b with
    | none => rfl
    | some y =>
      cases y with
      | row es =>
        simp only
        cases es[i]? with
        | none => rfl
        | some cs => exact bif_iff (by rw [Bool.and_eq_true, Bool.and_eq_true, beq_iff, ble_iff]; rfl) _ _
      | _ => rfl
  | _ => rfl

def slElemsK (h : FHeap) (esz : Nat) (x : FV) : Option (List (List FV)) :=
  match x with
  | .sl b off len z =>
    match kTget h b with
    | some (.row es) => bif Nat.beq z esz && Nat.ble (Nat.add off len) (klen es) then some (ktake len (kdrop off es)) else none
    | _ => none
  | .d .nils => some []
  | .d (.lst z es) => bif Nat.beq z esz then some (kmap (fun e => kmap .d e) es) else none
  | _ => none

theorem slElemsK_eq (h : FHeap) (esz : Nat) (x : FV) : slElemsK h esz x = slElemsF h esz x := by
  cases x with
  | sl b off len z =>
    simp only [slElemsK, slElemsF, kTget_eq, ktake_eq, kdrop_eq, klen_eq]
    cases h.get b with
    | none => rfl
    | some y =>
      cases y with
      | row es => exact bif_iff (by rw [Bool.and_eq_true, beq_iff, ble_iff]; rfl) _ _
      | _ => rfl
  | d t =>
    cases t with
    | lst z es =>
      simp only [slElemsK, slElemsF, kmap_eq]
      exact bif_iff beq_iff _ _
    | _ => rfl
  | _ => rfl

def natOfK (x : FV) : Option Nat :=
  match x with
  | .d (.int _ (.lit (.ofNat n))) => some n
  | _ => none

theorem natOfK_some {x : FV} {n : Nat} (h : natOfK x = some n) : intOfF x = some (Int.ofNat n) := by
  unfold natOfK at h
  split at h <;> cases h
  rfl

theorem natOfK_none {x : FV} (h : natOfK x = none) : intOfF x = none ∨ ∃ m, intOfF x = some (Int.negSucc m) := by
  unfold natOfK at h
  split at h
  · cases h
  · rename_i hne
    unfold intOfF
    split
    · rename_i k n
      cases n with
      | ofNat n => exact absurd rfl (hne _ _)
      | negSucc n => exact .inr ⟨n, rfl⟩
    · exact .inl rfl

def indexAddrK (arr : Option Nat) : Nat → FV → FV → Option FV :=
  match arr with
  | some len => fun esz x ix =>
    match natOfK ix with
    | some n =>
      bif Nat.blt n len then
        match x with
        | .ptr b i j => some (.ptr b i (Nat.add j (Nat.mul n esz)))
        | .iptr cs j => some (.iptr cs (Nat.add j (Nat.mul n esz)))
        | _ => none
      else none
    | none => none
  | none => fun esz x ix =>
    match natOfK ix with
    | some n =>
      match x with
      | .sl b off len z => bif Nat.beq z esz && Nat.blt n len then some (.ptr b (Nat.add off n) 0) else none
      | .d (.lst z es) =>
        bif Nat.beq z esz then
          match kget es n with
          | some cs => some (.iptr cs 0)
          | none => none
        else none
      | _ => none
    | none => none

theorem indexAddrK_eq (arr : Option Nat) (esz : Nat) (x ix : FV) : indexAddrK arr esz x ix = indexAddrF arr esz x ix := by
  have neg : natOfK ix = none → indexAddrF arr esz x ix = none := fun h => by
    rcases natOfK_none h with h | ⟨m, h⟩
    · simp only [indexAddrF, h]
    · simp only [indexAddrF, h]
      cases arr with
      | some len => exact if_neg (fun hh => absurd hh.1 (by omega))
      | none =>
        cases x with
        | sl b off len z => exact if_neg (fun hh => absurd hh.2.1 (by omega))
        | d t =>
          cases t with
          | lst z es => exact if_neg (fun hh => absurd hh.2 (by omega))
          | _ => rfl
        | _ => rfl
  cases hn : natOfK ix with
  | none =>
    rw [neg hn]
    cases arr <;> simp only [indexAddrK, hn]
  | some n =>
    have hi := natOfK_some hn
    cases arr with
    | some len =>
      simp only [indexAddrK, indexAddrF, hn, hi]
      rw [bif_iff (p := 0 ≤ (Int.ofNat n) ∧ (Int.ofNat n) < (len : Int)) (by rw [blt_iff]; constructor <;> intro h <;> simp at * <;> omega)]
      split
      · cases x <;> rfl
      · rfl
    | none =>
      simp only [indexAddrK, indexAddrF, hn, hi, kget_eq]
      cases x with
      | sl b off len z => exact bif_iff (by rw [Bool.and_eq_true, beq_iff, blt_iff]; simp) _ _
      | d t =>
        cases t with
        | lst z es =>
          simp only
          rw [bif_iff (p := z = esz ∧ 0 ≤ Int.ofNat n) (by rw [beq_iff]; simp)]
          rfl
        | _ => rfl
      | _ => rfl

def fieldOfK (off : Nat) (n : Option Nat) (x : FV) : Option FV :=
  match x with
  | .agg cs => partK cs off n
  | _ => none

theorem fieldOfK_eq (off : Nat) (n : Option Nat) (x : FV) : fieldOfK off n x = fieldOfF off n x := by
  cases x <;> first | rfl | exact partK_eq _ _ _

/-! ### Maps -/

def findKvK {α : Type} (fc : Facts) (kk : KK) (k : List FT) (l : List ((Bool × List FT) × α)) : Option (Option α) :=
  List.rec (motive := fun _ => Option (Option α)) (some none) (fun e _ ih =>
    bif (e.1.1 == kk.agg) && kindsOkK kk.ks e.1.2 then
      match sameCellsK fc k e.1.2 with
      | some true => some (some e.2)
      | some false => ih
      | none => none
    else none) l

theorem findKvK_eq {α : Type} (fc : Facts) (kk : KK) (k : List FT) : ∀ l : List ((Bool × List FT) × α), findKvK fc kk k l = findKvF fc kk k l
  | [] => rfl
  | (a, x) :: rest => by
    show (bif (a.1 == kk.agg) && kindsOkK kk.ks a.2 then (match sameCellsK fc k a.2 with | some true => some (some x) | some false => findKvK fc kk k rest | none => none) else none) = _
    rw [findKvK_eq fc kk k rest, kindsOkK_eq, sameCellsK_eq]
    exact bif_iff (by rw [Bool.and_eq_true, beq_iff_eq]) _ _

/-- The same, for keys that are one known number. -/
def findNat {α : Type} (kt : Nat) (n : Nat) (l : List ((Bool × List FT) × α)) : Option (Option α) :=
  List.rec (motive := fun _ => Option (Option α)) (some none) (fun e _ ih =>
    match e.1 with
    | (false, [.int k (.lit (.ofNat m))]) => bif Nat.beq kt k.ctorIdx then (bif Nat.beq n m then some (some e.2) else ih) else none
    | _ => none) l

theorem findNat_ok {α : Type} (fc : Facts) (kt k0 : IntKind) (n : Nat) : ∀ (l : List ((Bool × List FT) × α)) (r : Option α), findNat kt.ctorIdx n l = some r → findKvF fc ⟨false, [.int kt]⟩ [.int k0 (.lit (.ofNat n))] l = some r
  | [], r, h => h
  | (a, x) :: rest, r, h0 => by
    have ih := findNat_ok fc kt k0 n rest r
    have h : (match (generalizing := false) a with
      | (false, [.int k (.lit (.ofNat m))]) => bif Nat.beq kt.ctorIdx k.ctorIdx then (bif Nat.beq n m then some (some x) else findNat kt.ctorIdx n rest) else none
      | _ => none) = some r := h0
    clear h0
    split at h
    · rename_i k m
      cases hk : Nat.beq kt.ctorIdx k.ctorIdx with
      | false => rw [hk] at h; cases h
      | true =>
        rw [hk] at h
        have hkk : kt = k := by cases kt <;> cases k <;> first | rfl | (simp [IntKind.ctorIdx] at hk)
        subst hkk
        simp only [findKvF, kindsOkF, okF, decide_true, Bool.and_self, and_self, if_true, sameCellsF, sameF]
        cases hm : Nat.beq n m with
        | true =>
          rw [hm] at h
          simp only [cond_true] at h
          rw [Nat.eq_of_beq_eq_true hm]
          simpa using h
        | false =>
          rw [hm] at h
          simp only [cond_true, cond_false] at h
          have hne : ¬ (Int.ofNat n = Int.ofNat m) := fun e => by
            have : n = m := Int.ofNat.inj e
            rw [this] at hm
            simp at hm
          rw [decide_eq_false hne]
          exact ih h
    · cases h

def findKvQ {α : Type} (fc : Facts) (kk : KK) (k : List FT) (l : List ((Bool × List FT) × α)) : Option (Option α) :=
  match kk, k with
  | ⟨false, [.int kt]⟩, [.int _ (.lit (.ofNat n))] =>
    match findNat kt.ctorIdx n l with
    | some r => some r
    | none => findKvK fc kk k l
  | _, _ => findKvK fc kk k l

theorem findKvQ_eq {α : Type} (fc : Facts) (kk : KK) (k : List FT) (l : List ((Bool × List FT) × α)) : findKvQ fc kk k l = findKvF fc kk k l := by
  unfold findKvQ
  split
  · split
    · rename_i h; exact (findNat_ok fc _ _ _ _ _ h).symm
    · exact findKvK_eq _ _ _ _
  · exact findKvK_eq _ _ _ _

def setKvK (fc : Facts) (kk : KK) (k : List FT) (x : FV) (l : List ((Bool × List FT) × FV)) : Option (List ((Bool × List FT) × FV)) :=
  List.rec (motive := fun _ => Option (List ((Bool × List FT) × FV))) (some [((kk.agg, k), x)]) (fun e rest ih =>
    bif (e.1.1 == kk.agg) && kindsOkK kk.ks e.1.2 then
      match sameCellsK fc k e.1.2 with
      | some true => some (((kk.agg, k), x) :: rest)
      | some false =>
        match ih with
        | some r => some (e :: r)
        | none => none
      | none => none
    else none) l

theorem setKvK_eq (fc : Facts) (kk : KK) (k : List FT) (x : FV) : ∀ l, setKvK fc kk k x l = setKvF fc kk k x l
  | [] => rfl
  | (a, y) :: rest => by
    show (bif (a.1 == kk.agg) && kindsOkK kk.ks a.2 then (match sameCellsK fc k a.2 with | some true => some (((kk.agg, k), x) :: rest) | some false => (match setKvK fc kk k x rest with | some r => some ((a, y) :: r) | none => none) | none => none) else none) = _
    rw [setKvK_eq fc kk k x rest, kindsOkK_eq, sameCellsK_eq]
    exact bif_iff (by rw [Bool.and_eq_true, beq_iff_eq]) _ _

def keyCellsK (kk : KK) (k : FV) : Option (List FT) :=
  bif k.isAgg == kk.agg then
    match dataCellsK (cellsK k) with
    | some ts => bif kindsOkK kk.ks ts then some ts else none
    | none => none
  else none

theorem keyCellsK_eq (kk : KK) (k : FV) : keyCellsK kk k = keyCellsF kk k := by
  simp only [keyCellsK, keyCellsF, dataCellsK_eq, cellsK_eq, kindsOkK_eq]
  rw [bif_iff (p := k.isAgg = kk.agg) (by rw [beq_iff_eq])]
  split
  · cases dataCellsF k.cells with
    | none => rfl
    | some ts => exact bif_iff Iff.rfl _ _
  · rfl

def findK (fc : Facts) (kk : KK) (h : FHeap) (m : FV) (k : List FT) : Option (Option FV) :=
  match m with
  | .map b =>
    match kTget h b with
    | some (.map kvs) => findKvQ fc kk k kvs
    | _ => none
  | .d .nilm => some none
  | .d (.imap es) =>
    match findKvQ fc kk k es with
    | some (some x) => some (some (ofCellsF x))
    | some none => some none
    | none => none
  | _ => none

theorem findK_eq (fc : Facts) (kk : KK) (h : FHeap) (m : FV) (k : List FT) : findK fc kk h m k = findF fc kk h m k := by
  cases m with
  | map b =>
    simp only [findK, findF, kTget_eq]
    cases h.get b with
    | none => rfl
    | some y =>
      cases y with
      | map kvs => exact findKvQ_eq fc kk k kvs
      | _ => rfl
  | d t =>
    cases t with
    | imap es => simp only [findK, findF, findKvQ_eq] <;> rfl
    | _ => rfl
  | _ => rfl

def lookupK (fc : Facts) (kk : KK) (h : FHeap) (zero : FV) (ok : Bool) (m k : FV) : Option FV :=
  match keyCellsK kk k with
  | some ts =>
    match findK fc kk h m ts with
    | some (some v) => some (bif ok then .tup [v, .d (.bool true)] else v)
    | some none => some (bif ok then .tup [zero, .d (.bool false)] else zero)
    | none => none
  | none => none

theorem lookupK_eq (fc : Facts) (kk : KK) (h : FHeap) (zero : FV) (ok : Bool) (m k : FV) : lookupK fc kk h zero ok m k = lookupF fc kk h zero ok m k := by
  simp only [lookupK, lookupF, keyCellsK_eq, findK_eq]
  cases ok <;> rfl

def mapUpdateK (fc : Facts) (kk : KK) (h : FHeap) (m k x : FV) : Option FHeap :=
  match m with
  | .map b =>
    match keyCellsK kk k with
    | some ts =>
      match kTget h b with
      | some (.map kvs) =>
        match setKvK fc kk ts x kvs with
        | some kvs' => some (kTput h b (some (.map kvs')))
        | none => none
      | _ => none
    | none => none
  | _ => none

theorem mapUpdateK_eq (fc : Facts) (kk : KK) (h : FHeap) (m k x : FV) : mapUpdateK fc kk h m k x = mapUpdateF fc kk h m k x := by
  cases m with
  | map b =>
    simp only [mapUpdateK, mapUpdateF, keyCellsK_eq, kTget_eq, setKvK_eq, kTput_eq]
    cases keyCellsF kk k <;> rfl
  | _ =>
    simp only [mapUpdateK, mapUpdateF]

def lenK (k : LK) : FHeap → FV → Option FV :=
  match k with
  | .slc => fun _ x =>
    match x with
    | .sl _ _ len _ => some (.d (.int .i64 (.lit (.ofNat len))))
    | .emp => some (.d (.int .i64 (.lit (.ofNat 0))))
    | .d .nils => some (.d (.int .i64 (.lit (.ofNat 0))))
    | .d (.lst _ es) => some (.d (.int .i64 (.lit (.ofNat (klen es)))))
    | _ => none
  | k => fun h x => lenF h k x

theorem lenK_eq (h : FHeap) (k : LK) (x : FV) : lenK k h x = lenF h k x := by
  cases k with
  | slc =>
    cases x with
    | d t =>
      cases t with
      | lst z es => simp only [lenK, lenF, klen_eq]; rfl
      | _ => rfl
    | _ => rfl
  | _ => rfl

/-! ### Structs, rows, appends -/

def fillK (ρ : DOpnd → FV) (l : List (Nat × Nat × DOpnd)) : List FV → Option (List FV) :=
  List.rec (motive := fun _ => List FV → Option (List FV)) (fun cells => some cells) (fun e _ ih cells =>
    bif Nat.beq (klen (cellsK (ρ e.2.2))) e.2.1 && Nat.ble (Nat.add e.1 e.2.1) (klen cells) then ih (kapp (ktake e.1 cells) (kapp (cellsK (ρ e.2.2)) (kdrop (Nat.add e.1 e.2.1) cells))) else none) l

theorem fillK_eq (ρ : DOpnd → FV) : ∀ l cells, fillK ρ l cells = fillF ρ l cells
  | [], cells => rfl
  | (off, size, x) :: rest, cells => by
    show (bif Nat.beq (klen (cellsK (ρ x))) size && Nat.ble (Nat.add off size) (klen cells) then fillK ρ rest (kapp (ktake off cells) (kapp (cellsK (ρ x)) (kdrop (Nat.add off size) cells))) else none) = _
    rw [fillK_eq ρ rest]
    simp only [kapp_eq, ktake_eq, kdrop_eq, klen_eq, cellsK_eq]
    exact bif_iff (by rw [Bool.and_eq_true, beq_iff, ble_iff]; rfl) _ _

def fillRowsK (ρ : DOpnd → FV) (esz : Nat) (l : List (Nat × DOpnd)) : List (List FV) → Option (List (List FV)) :=
  List.rec (motive := fun _ => List (List FV) → Option (List (List FV))) (fun es => some es) (fun e _ ih es =>
    bif Nat.beq (klen (cellsK (ρ e.2))) esz && (Nat.blt e.1 (klen es) && kall FV.one (cellsK (ρ e.2))) then ih (kset es e.1 (cellsK (ρ e.2))) else none) l

theorem fillRowsK_eq (ρ : DOpnd → FV) (esz : Nat) : ∀ l es, fillRowsK ρ esz l es = fillRowsF ρ esz l es
  | [], es => rfl
  | (i, x) :: rest, es => by
    show (bif Nat.beq (klen (cellsK (ρ x))) esz && (Nat.blt i (klen es) && kall FV.one (cellsK (ρ x))) then fillRowsK ρ esz rest (kset es i (cellsK (ρ x))) else none) = _
    rw [fillRowsK_eq ρ esz rest]
    simp only [kset_eq, klen_eq, kall_eq, cellsK_eq]
    exact bif_iff (by rw [Bool.and_eq_true, Bool.and_eq_true, beq_iff, blt_iff]) _ _

def appendK (esz bytes : Nat) (h : FHeap) (s x : FV) (fr : Nat) : Option (FV × FHeap) :=
  match slElemsK h esz x with
  | some xs =>
    match s with
    | .sl b off len z =>
      match kTget h b with
      | some (.row es) =>
        bif Nat.beq z esz && (Nat.ble (Nat.add off len) (klen es) && Nat.ble (Nat.mul (Nat.add len (klen xs)) bytes) 140737488355328) then
          some (.sl fr 0 (Nat.add len (klen xs)) esz, kTput (kTput h b none) fr (some (.row (kapp (ktake len (kdrop off es)) xs))))
        else none
      | _ => none
    | .d .nils =>
      match xs with
      | [] => some (.d .nils, h)
      | x :: xs => bif Nat.ble (Nat.mul (klen (x :: xs)) bytes) 140737488355328 then some (.sl fr 0 (klen (x :: xs)) esz, kTput h fr (some (.row (x :: xs)))) else none
    | _ => none
  | none => none

theorem appendK_eq (esz bytes : Nat) (h : FHeap) (s x : FV) (fr : Nat) : appendK esz bytes h s x fr = appendF esz bytes h s x fr := by
  simp only [appendK, appendF, slElemsK_eq, kTget_eq, kTput_eq, klen_eq, kapp_eq, ktake_eq, kdrop_eq]
  cases slElemsF h esz x with
  | none => rfl
  | some xs =>
    cases s with
    | sl b off len z =>
      simp only
      cases h.get b with
      | none => rfl
      | some y =>
        cases y with
        | row es => exact bif_iff (by rw [Bool.and_eq_true, Bool.and_eq_true, beq_iff, ble_iff, ble_iff]; rfl) _ _
        | _ => rfl
    | d t =>
      cases t with
      | nils =>
        cases xs with
        | nil => rfl
        | cons x xs =>
          simp only [List.length_cons, Nat.add_eq_zero_iff, Nat.one_ne_zero, and_false, if_false]
          exact bif_iff ble_iff _ _
      | _ => rfl
    | _ => rfl

def keepK (h : FHeap) (v : Option FV) : Option (FV × FHeap) := Option.rec (motive := fun _ => Option (FV × FHeap)) none (fun v => some (v, h)) v

theorem keepK_eq (h : FHeap) (v : Option FV) : keepK h v = keepF h v := by cases v <;> rfl

def evalK (op : DOp) : Facts → (DOpnd → FV) → FHeap → Nat → Option (FV × FHeap) :=
  match op with
  | .move x => fun _ ρ h _ => some (ρ x, h)
  | .alloc zero => fun _ _ h fr => some (.ptr fr 0 0, kTput h fr (some (.row [kmap lift0 zero])))
  | .box x => fun _ ρ h fr => bif kall FV.one (cellsK (ρ x)) then some (.ptr fr 0 0, kTput h fr (some (.row [cellsK (ρ x)]))) else none
  | .build zero parts => fun _ ρ h _ =>
    match fillK ρ parts (kmap lift0 zero) with
    | some cs => some (.agg cs, h)
    | none => none
  | .buildSlice esz len zero parts => fun _ ρ h fr =>
    match fillRowsK ρ esz parts (krep len (kmap lift0 zero)) with
    | some es => some (.sl fr 0 len esz, kTput h fr (some (.row es)))
    | none => none
  | .load n a => fun _ ρ h _ => keepK h (loadK h n (ρ a))
  | .store n a x => fun _ ρ h _ => setF (storeK h n (ρ a) (ρ x))
  | .bin op kd x y => fun fc ρ h _ => keepK h (binK kd fc op (ρ x) (ρ y))
  | .fieldAddr off x => fun _ ρ h _ => keepK h (fieldF off (ρ x))
  | .field off n x => fun _ ρ h _ => keepK h (fieldOfK off n (ρ x))
  | .indexAddr arr esz x ix => fun _ ρ h _ => keepK h (indexAddrK arr esz (ρ x) (ρ ix))
  | .lookup kk zero ok m k => fun fc ρ h _ => keepK h (lookupK fc kk h (liftV zero) ok (ρ m) (ρ k))
  | .mapUpdate kk m k x => fun fc ρ h _ => setF (mapUpdateK fc kk h (ρ m) (ρ k) (ρ x))
  | .len k x => fun _ ρ h _ => keepK h (lenK k h (ρ x))
  | .append esz bytes _ s x => fun _ ρ h fr => appendK esz bytes h (ρ s) (ρ x) fr
  | .makeFunc f caps => fun _ ρ h _ => some (.fn f (kmap ρ caps), h)
  | op => fun fc ρ h fr => evalF fc op ρ h fr

theorem evalK_eq (fc : Facts) (op : DOp) (ρ : DOpnd → FV) (h : FHeap) (fr : Nat) : evalK op fc ρ h fr = evalF fc op ρ h fr := by
  cases op with
  | alloc zero => simp only [evalK, evalF, kTput_eq, kmap_eq] <;> rfl
  | box x => simp only [evalK, evalF, kTput_eq, kall_eq, cellsK_eq]; exact bif_iff Iff.rfl _ _
  | build zero parts => simp only [evalK, evalF, fillK_eq, kmap_eq] <;> rfl
  | buildSlice esz len zero parts => simp only [evalK, evalF, fillRowsK_eq, kmap_eq, krep_eq, kTput_eq] <;> rfl
  | load n a => simp only [evalK, evalF, keepK_eq, loadK_eq] <;> rfl
  | store n a x => simp only [evalK, evalF, storeK_eq] <;> rfl
  | bin op kd x y => simp only [evalK, evalF, keepK_eq, binK_eq] <;> rfl
  | fieldAddr off x => simp only [evalK, evalF, keepK_eq] <;> rfl
  | field off n x => simp only [evalK, evalF, keepK_eq, fieldOfK_eq] <;> rfl
  | indexAddr arr esz x ix => simp only [evalK, evalF, keepK_eq, indexAddrK_eq] <;> rfl
  | lookup kk zero ok m k => simp only [evalK, evalF, keepK_eq, lookupK_eq] <;> rfl
  | mapUpdate kk m k x => simp only [evalK, evalF, mapUpdateK_eq] <;> rfl
  | len k x => simp only [evalK, evalF, keepK_eq, lenK_eq] <;> rfl
  | append esz bytes z s x => simp only [evalK, evalF, appendK_eq] <;> rfl
  | makeFunc f caps => simp only [evalK, evalF, kmap_eq] <;> rfl
  | _ => rfl

end
end Go.Df
