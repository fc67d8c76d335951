/- The F machine's operations, each with the operation of the D machine that it stands for. No condition. -/
import Derived.Test.YtjnllnigogpagadDfA
namespace Go.Df
open Go.Dv

/-! ### Numbers -/

def E.beq : E → E → Bool
  | .lit a, .lit b => decide (a = b)
  | .var i, .var j => Nat.beq i j
  | .bin o k a b, .bin o' k' a' b' => decide (o = o') && decide (k = k') && E.beq a a' && E.beq b b'
  | .wrap k a, .wrap k' a' => decide (k = k') && E.beq a a'
  | _, _ => false

theorem E.beq_ok : ∀ {a b : E}, E.beq a b = true → a = b
  | .lit a, .lit b, h => by simp only [E.beq, decide_eq_true_eq] at h; rw [h]
  | .var i, .var j, h => by rw [Nat.eq_of_beq_eq_true h]
  | .bin o k a b, .bin o' k' a' b', h => by
    simp only [E.beq, Bool.and_eq_true, decide_eq_true_eq] at h
    rw [h.1.1.1, h.1.1.2, E.beq_ok h.1.2, E.beq_ok h.2]
  | .wrap k a, .wrap k' a', h => by
    simp only [E.beq, Bool.and_eq_true, decide_eq_true_eq] at h
    rw [h.1, E.beq_ok h.2]
  | .lit _, .var _, h => by simp [E.beq] at h
  | .lit _, .bin .., h => by simp [E.beq] at h
  | .lit _, .wrap .., h => by simp [E.beq] at h
  | .var _, .lit _, h => by simp [E.beq] at h
  | .var _, .bin .., h => by simp [E.beq] at h
  | .var _, .wrap .., h => by simp [E.beq] at h
  | .bin .., .lit _, h => by simp [E.beq] at h
  | .bin .., .var _, h => by simp [E.beq] at h
  | .bin .., .wrap .., h => by simp [E.beq] at h
  | .wrap .., .lit _, h => by simp [E.beq] at h
  | .wrap .., .var _, h => by simp [E.beq] at h
  | .wrap .., .bin .., h => by simp [E.beq] at h

/-- What is taken to be known of expressions: comparisons and how they end. -/
abbrev Facts := List (BinOp × E × E × Bool)

def FactsOk (ρ : Ev) (fc : Facts) : Prop := ∀ p ∈ fc, intOp p.1 .i64 (p.2.1.den ρ) (p.2.2.1.den ρ) = some (.bool p.2.2.2)

def factOf : Facts → BinOp → E → E → Option Bool
  | [], _, _, _ => none
  | (o, a, b, r) :: rest, op, x, y => if o = op then (if E.beq a x && E.beq b y then some r else factOf rest op x y) else factOf rest op x y

theorem factOf_ok {ρ : Ev} {op : BinOp} {x y : E} {r : Bool} : ∀ {fc : Facts}, FactsOk ρ fc → factOf fc op x y = some r → intOp op .i64 (x.den ρ) (y.den ρ) = some (.bool r)
  | [], _, h => by cases h
  | (o, a, b, s) :: rest, hf, h => by
    have ih := fun h => factOf_ok (ρ := ρ) (op := op) (x := x) (y := y) (r := r) (fc := rest) (fun p hp => hf p (List.mem_cons_of_mem _ hp)) h
    unfold factOf at h
    split at h
    · rename_i ho
      split at h
      · rename_i hab
        simp only [Bool.and_eq_true] at hab
        cases h
        have := hf _ (List.mem_cons_self ..)
        rw [E.beq_ok hab.1, E.beq_ok hab.2, ho] at this
        exact this
      · exact ih h
    · exact ih h

def symCmp (fc : Facts) (op : BinOp) (a b : E) : Option Bool :=
  if E.beq a b then
    match op with
    | .eql => some true
    | .neq => some false
    | .lss => some false
    | .leq => some true
    | .gtr => some false
    | .geq => some true
    | _ => none
  else
    match op with
    | .neq =>
      match factOf fc .eql a b with
      | some r => some (!r)
      | none => none
    | op => factOf fc op a b

theorem symCmp_ok {ρ : Ev} {fc : Facts} {op : BinOp} {a b : E} {r : Bool} (hf : FactsOk ρ fc) (h : symCmp fc op a b = some r) : intOp op .i64 (a.den ρ) (b.den ρ) = some (.bool r) := by
  unfold symCmp at h
  split at h
  · rename_i hb
    rw [E.beq_ok hb]
    split at h <;> simp at h <;> subst h <;> simp [intOp, V.bool]
  · split at h
    · split at h
      · rename_i r' hr
        cases h
        have := factOf_ok hf hr
        simp only [intOp, V.bool, Option.some.injEq, V.d.injEq, T.bool.injEq] at this
        simp only [intOp, V.bool, bne, this]
      · cases h
    · exact factOf_ok hf h

def nonzero (fc : Facts) : E → Bool
  | .lit n => !decide (n = 0)
  | b => match symCmp fc .eql b (.lit 0) with
    | some r => !r
    | none => false

theorem nonzero_ok {ρ : Ev} {fc : Facts} {b : E} (hf : FactsOk ρ fc) (h : nonzero fc b = true) : b.den ρ ≠ 0 := by
  unfold nonzero at h
  split at h
  · simpa using h
  · split at h
    · rename_i r hr
      have := symCmp_ok hf hr
      simp only [intOp, V.bool, Option.some.injEq, V.d.injEq, T.bool.injEq, den_lit] at this
      rw [← this] at h
      simpa using h
    · cases h

/-- The number that an expression is known to be. -/
def litOf : Facts → E → Option Int
  | [], _ => none
  | (.eql, a, .lit n, true) :: rest, e => if E.beq a e then some n else litOf rest e
  | _ :: rest, e => litOf rest e

theorem litOf_ok {ρ : Ev} {e : E} {n : Int} : ∀ {fc : Facts}, FactsOk ρ fc → litOf fc e = some n → e.den ρ = n
  | [], _, h => by cases h
  | p :: rest, hf, h => by
    have ih := fun h => litOf_ok (ρ := ρ) (e := e) (n := n) (fc := rest) (fun q hq => hf q (List.mem_cons_of_mem _ hq)) h
    unfold litOf at h
    split at h
    · cases h
    · rename_i a m rest' heq
      simp only [List.cons.injEq] at heq
      obtain ⟨rfl, rfl⟩ := heq
      split at h
      · rename_i hb
        cases h
        have := hf _ (List.mem_cons_self ..)
        simp only [intOp, V.bool, Option.some.injEq, V.d.injEq, T.bool.injEq, den_lit, beq_iff_eq] at this
        rw [← E.beq_ok hb]
        exact this
      · exact ih h
    · rename_i heq
      simp only [List.cons.injEq] at heq
      obtain ⟨rfl, rfl⟩ := heq
      exact ih h

def normE (fc : Facts) (e : E) : E :=
  match litOf fc e with
  | some n => .lit n
  | none => e

theorem normE_ok {ρ : Ev} {fc : Facts} (hf : FactsOk ρ fc) (e : E) : (normE fc e).den ρ = e.den ρ := by
  unfold normE
  split
  · rename_i n hn
    rw [litOf_ok hf hn]; rfl
  · rfl

def boolF : Option Bool → Option FV
  | some r => some (.d (.bool r))
  | none => none

def symOp (fc : Facts) (op : BinOp) (k : IntKind) (a b : E) : Option FV :=
  match op with
  | .add | .sub | .mul | .and | .or | .xor | .andNot => some (.d (.int k (normE fc (.bin op k a b))))
  | .quo | .rem => if nonzero fc b then some (.d (.int k (normE fc (.bin op k a b)))) else none
  | .eql | .neq | .lss | .leq | .gtr | .geq => boolF (symCmp fc op a b)
  | _ => none

def liftO : Option V → Option FV
  | some v => some (lift0 v)
  | none => none

def intOpF (fc : Facts) (op : BinOp) (k : IntKind) (a b : E) : Option FV :=
  match a, b with
  | .lit x, .lit y => liftO (intOp op k x y)
  | a, b => symOp fc op k a b

theorem symOp_ok {ρ : Ev} {fc : Facts} {op : BinOp} {k : IntKind} {a b : E} {v : FV} (hf : FactsOk ρ fc) (h : symOp fc op k a b = some v) :
    intOp op k (a.den ρ) (b.den ρ) = some (v.den ρ) := by
  have cmp : ∀ {op : BinOp}, (op = .eql ∨ op = .neq ∨ op = .lss ∨ op = .leq ∨ op = .gtr ∨ op = .geq) → boolF (symCmp fc op a b) = some v → intOp op k (a.den ρ) (b.den ρ) = some (v.den ρ) := by
    intro op ho h
    unfold boolF at h
    split at h
    · rename_i r hr
      cases h
      have := symCmp_ok hf hr
      rcases ho with rfl | rfl | rfl | rfl | rfl | rfl <;> simpa [intOp, V.bool] using this
    · cases h
  unfold symOp at h
  split at h
  all_goals first
    | (exact cmp (by simp) h)
    | (cases h; simp [intOp, normE_ok hf, E.den, opVal])
    | (split at h
       · rename_i hz
         have := nonzero_ok hf hz
         cases h
         simp [intOp, normE_ok hf, E.den, opVal, this]
       · cases h)
    | cases h

theorem intOpF_ok {ρ : Ev} {fc : Facts} {op : BinOp} {k : IntKind} {a b : E} {v : FV} (hf : FactsOk ρ fc) (h : intOpF fc op k a b = some v) :
    intOp op k (a.den ρ) (b.den ρ) = some (v.den ρ) := by
  unfold intOpF at h
  split at h
  · unfold liftO at h
    split at h
    · rename_i x y _ w hw
      cases h
      simp only [den_lit, hw, den_lift0]
    · cases h
  · exact symOp_ok hf h

/-! ### Cells that are compared -/

def sameF (fc : Facts) : FT → FT → Option Bool
  | .int _ (.lit a), .int _ (.lit b) => some (decide (a = b))
  | .int _ a, .int _ b => symCmp fc .eql a b
  | .bool a, .bool b => some (a == b)
  | .str a, .str b => some (a == b)
  | _, _ => none

theorem sameF_ok {ρ : Ev} {fc : Facts} {a b : FT} {r : Bool} (hf : FactsOk ρ fc) (h : sameF fc a b = some r) : T.same (a.den ρ) (b.den ρ) = r := by
  unfold sameF at h
  split at h
  · cases h; simp [T.same]; rfl
  · have := symCmp_ok hf h
    simp only [intOp, V.bool, Option.some.injEq, V.d.injEq, T.bool.injEq] at this
    simpa [T.same] using this
  · cases h; simp [T.same]
  · cases h; simp [T.same]
  · cases h

def sameCellsF (fc : Facts) : List FT → List FT → Option Bool
  | [], [] => some true
  | a :: as, b :: bs =>
    match sameF fc a b with
    | some true => sameCellsF fc as bs
    | some false => some false
    | none => none
  | _, _ => none

theorem sameCellsF_ok {ρ : Ev} {fc : Facts} (hf : FactsOk ρ fc) : ∀ {a b : List FT} {r : Bool}, sameCellsF fc a b = some r → sameCells (a.map (FT.den ρ)) (b.map (FT.den ρ)) = r
  | [], [], r, h => by cases h; rfl
  | a :: as, b :: bs, r, h => by
    unfold sameCellsF at h
    simp only [List.map_cons, sameCells]
    split at h
    · rename_i hs
      rw [sameF_ok hf hs, sameCellsF_ok hf h]; simp
    · rename_i hs
      cases h
      rw [sameF_ok hf hs]; simp
    · cases h
  | [], _ :: _, _, h => by cases h
  | _ :: _, [], _, h => by cases h

def okF : SK → FT → Bool
  | .int k, .int k' _ => decide (k = k')
  | .str, .str _ => true
  | .bool, .bool _ => true
  | _, _ => false

theorem okF_ok {ρ : Ev} {s : SK} {t : FT} (h : okF s t = true) : s.ok (t.den ρ) = true := by
  unfold okF at h
  split at h
  · simpa [SK.ok] using h
  · simp [SK.ok]
  · simp [SK.ok]
  · cases h

def kindsOkF : List SK → List FT → Bool
  | [], [] => true
  | k :: ks, t :: ts => okF k t && kindsOkF ks ts
  | _, _ => false

theorem kindsOkF_ok {ρ : Ev} : ∀ {ks : List SK} {ts : List FT}, kindsOkF ks ts = true → kindsOk ks (ts.map (FT.den ρ)) = true
  | [], [], _ => rfl
  | k :: ks, t :: ts, h => by
    simp only [kindsOkF, Bool.and_eq_true] at h
    simp only [List.map_cons, kindsOk, okF_ok h.1, kindsOkF_ok h.2, Bool.and_self]
  | [], _ :: _, h => by cases h
  | _ :: _, [], h => by cases h

/-! ### Two operands -/

def isNilF (kd : Kd) (v : FV) : Option Bool :=
  match kd, v with
  | .slc, .d .nils => some true
  | .slc, .d (.lst ..) => some false
  | .slc, .sl .. => some false
  | .ptr, .d .nilp => some true
  | .ptr, .ptr .. => some false
  | .ptr, .iptr .. => some false
  | .map, .d .nilm => some true
  | .map, .d (.imap _) => some false
  | .map, .map _ => some false
  | .fn, .d .nilf => some true
  | .fn, .fn .. => some false
  | _, _ => none

theorem isNilF_ok {ρ : Ev} {kd : Kd} {v : FV} {r : Bool} (h : isNilF kd v = some r) : V.isNil kd (v.den ρ) = some r := by
  unfold isNilF at h
  split at h <;> cases h <;> simp [V.isNil]

def eqNilF (kd : Kd) (x y : FV) : Option Bool :=
  match isNilF kd x, isNilF kd y with
  | some true, some b => some b
  | some false, some true => some false
  | _, _ => none

theorem eqNilF_ok {ρ : Ev} {kd : Kd} {x y : FV} {r : Bool} (h : eqNilF kd x y = some r) : eqNil kd (x.den ρ) (y.den ρ) = some r := by
  unfold eqNilF at h
  split at h
  · rename_i b hx hy
    cases h
    simp only [eqNil, isNilF_ok hx, isNilF_ok hy]
  · rename_i hx hy
    cases h
    simp only [eqNil, isNilF_ok hx, isNilF_ok hy]
  · cases h

def eqOpF (op : BinOp) (r : Option Bool) : Option FV :=
  match op, r with
  | .eql, some b => some (.d (.bool b))
  | .neq, some b => some (.d (.bool (!b)))
  | _, _ => none

theorem eqOpF_ok {ρ : Ev} {op : BinOp} {r s : Option Bool} {v : FV} (hrs : ∀ b, r = some b → s = some b) (h : eqOpF op r = some v) : eqOp op s = some (v.den ρ) := by
  unfold eqOpF at h
  split at h
  · cases h; rw [hrs _ rfl]; simp [eqOp, V.bool]
  · cases h; rw [hrs _ rfl]; simp [eqOp, V.bool]
  · cases h

def binF (fc : Facts) (op : BinOp) (kd : Kd) (x y : FV) : Option FV :=
  match kd with
  | .num =>
    match x, y with
    | .d (.int k a), .d (.int k' b) => if k = k' then intOpF fc op k a b else none
    | _, _ => none
  | .str =>
    match x, y with
    | .d (.str a), .d (.str b) => liftO (strOp op a b)
    | _, _ => none
  | .bool =>
    match x, y with
    | .d (.bool a), .d (.bool b) => eqOpF op (some (a == b))
    | _, _ => none
  | .agg ks =>
    match x, y with
    | .agg xs, .agg ys =>
      match dataCellsF xs, dataCellsF ys with
      | some a, some b => if kindsOkF ks a && kindsOkF ks b then eqOpF op (sameCellsF fc a b) else none
      | _, _ => none
    | _, _ => none
  | kd => eqOpF op (eqNilF kd x y)

theorem liftO_ok {ρ : Ev} {x : Option V} {v : FV} (h : liftO x = some v) : x = some (v.den ρ) := by
  unfold liftO at h
  split at h
  · cases h; simp
  · cases h

theorem binF_ok {ρ : Ev} {fc : Facts} {op : BinOp} {kd : Kd} {x y : FV} {v : FV} (hf : FactsOk ρ fc) (h : binF fc op kd x y = some v) : binV op kd (x.den ρ) (y.den ρ) = some (v.den ρ) := by
  unfold binF at h
  split at h
  · split at h
    · split at h
      · rename_i hk
        subst hk
        simp [binV, intOpF_ok hf h]
      · cases h
    · cases h
  · split at h
    · simp [binV, ← liftO_ok h]
    · cases h
  · split at h
    · simp only [den_d, den_bool, binV]
      exact eqOpF_ok (fun _ h => h) h
    · cases h
  · split at h
    · split at h
      · rename_i a b ha hb
        split at h
        · rename_i hk
          simp only [Bool.and_eq_true] at hk
          simp only [den_agg, binV, dataCells_ok ha, dataCells_ok hb, kindsOkF_ok hk.1, kindsOkF_ok hk.2, Bool.and_self, if_true]
          exact eqOpF_ok (fun b hb => by rw [sameCellsF_ok hf hb]) h
        · cases h
      · cases h
    · cases h
  · rename_i h1 h2 h3 h4
    have : binV op kd (x.den ρ) (y.den ρ) = eqOp op (eqNil kd (x.den ρ) (y.den ρ)) := by
      unfold binV
      split
      · exact absurd rfl h1
      · exact absurd rfl h2
      · exact absurd rfl h3
      · exact absurd rfl (h4 _)
      · rfl
    rw [this]
    exact eqOpF_ok (fun b hb => eqNilF_ok hb) h

def unF (fc : Facts) (op : UnOp) (x : FV) : Option FV :=
  match op, x with
  | .neg, .d (.int k n) => intOpF fc .sub k (.lit 0) n
  | .xor, .d (.int k n) => intOpF fc .xor k (.lit (if k.signed then -1 else k.max)) n
  | .not, .d (.bool b) => some (.d (.bool (!b)))
  | _, _ => none

theorem unF_ok {ρ : Ev} {fc : Facts} {op : UnOp} {x : FV} {v : FV} (hf : FactsOk ρ fc) (h : unF fc op x = some v) : unV op (x.den ρ) = some (v.den ρ) := by
  unfold unF at h
  split at h
  · simpa [unV] using intOpF_ok hf h
  · simpa [unV] using intOpF_ok hf h
  · cases h; simp [unV, V.bool]
  · cases h

def convF (k : Option IntKind) (x : FV) : Option FV :=
  match k, x with
  | some k, .d (.int _ (.lit n)) => some (.d (.int k (.lit (k.wrap n))))
  | some k, .d (.int _ e) => some (.d (.int k (.wrap k e)))
  | none, .d (.str s) => some (.d (.str s))
  | _, _ => none

theorem convF_ok {ρ : Ev} {k : Option IntKind} {x : FV} {v : FV} (h : convF k x = some v) : convV k (x.den ρ) = some (v.den ρ) := by
  unfold convF at h
  split at h <;> cases h <;> simp [convV, E.den]

/-! ### Cells and elements -/

def ptrCellsF (h : FHeap) : FV → Option (List FV × Nat)
  | .ptr b i j =>
    match h.get b with
    | some (.row es) =>
      match es[i]? with
      | some cs => some (cs, j)
      | none => none
    | _ => none
  | .iptr cs j => some (cs.map .d, j)
  | _ => none

theorem denH_row {ρ : Ev} {h : FHeap} {b : Nat} {es : List (List FV)} (e : h.get b = some (.row es)) : denH ρ h b = some (.row (es.map (List.map (FV.den ρ)))) := by
  simp [denH, e]

theorem denH_map {ρ : Ev} {h : FHeap} {b : Nat} {kvs : List ((Bool × List FT) × FV)} (e : h.get b = some (.map kvs)) : denH ρ h b = some (.map (kvs.map fun e => (denKey ρ e.1, e.2.den ρ))) := by
  simp [denH, e]

theorem ptrCellsF_ok {ρ : Ev} {h : FHeap} {p : FV} {cs : List FV} {j : Nat} (e : ptrCellsF h p = some (cs, j)) : ptrCells (denH ρ h) (p.den ρ) = some (cs.map (FV.den ρ), j) := by
  unfold ptrCellsF at e
  split at e
  · split at e
    · rename_i hb
      split at e
      · rename_i hi
        cases e
        simp [ptrCells, denH_row hb, List.getElem?_map, hi]
      · cases e
    · cases e
  · cases e; simp [ptrCells]
  · cases e

def loadF (h : FHeap) (n : Option Nat) (p : FV) : Option FV :=
  match ptrCellsF h p with
  | some (cs, j) =>
    match n with
    | none => cs[j]?
    | some n => if j + n ≤ cs.length then some (.agg ((cs.drop j).take n)) else none
  | none => none

theorem loadF_ok {ρ : Ev} {h : FHeap} {n : Option Nat} {p v : FV} (e : loadF h n p = some v) : loadV (denH ρ h) n (p.den ρ) = some (v.den ρ) := by
  unfold loadF at e
  split at e
  · rename_i cs j hc
    simp only [loadV, ptrCellsF_ok hc]
    split at e
    · simp [List.getElem?_map, e]
    · split at e
      · rename_i hl
        cases e
        simp [hl, List.map_take, List.map_drop]
      · cases e
  · cases e

def storeF (h : FHeap) (n : Nat) (p x : FV) : Option FHeap :=
  match p with
  | .ptr b i j =>
    match h.get b with
    | some (.row es) =>
      match es[i]? with
      | some cs =>
        if x.cells.length = n ∧ j + n ≤ cs.length ∧ x.cells.all FV.one = true then some (h.put b (some (.row (es.set i (cs.take j ++ (x.cells ++ cs.drop (j + n))))))) else none
      | none => none
    | _ => none
  | _ => none

theorem storeF_ok {ρ : Ev} {h h' : FHeap} {n : Nat} {p x : FV} (e : storeF h n p x = some h') : storeV (denH ρ h) n (p.den ρ) (x.den ρ) = some (denH ρ h') := by
  unfold storeF at e
  split at e
  · split at e
    · rename_i hb
      split at e
      · rename_i hi
        split at e
        · rename_i hc
          cases e
          simp only [den_ptr, storeV, denH_row hb, List.getElem?_map, hi, Option.map_some, cells_length, List.length_map, cells_one, hc, and_self, if_true, denH_put, den_row, List.map_set, List.map_append, den_cells, List.map_take, List.map_drop]
        · cases e
      · cases e
    · cases e
  · cases e

def slElemsF (h : FHeap) (esz : Nat) : FV → Option (List (List FV))
  | .d .nils => some []
  | .d (.lst z es) => if z = esz then some (es.map fun e => e.map .d) else none
  | .sl b off len z =>
    match h.get b with
    | some (.row es) => if z = esz ∧ off + len ≤ es.length then some ((es.drop off).take len) else none
    | _ => none
  | _ => none

theorem slElemsF_ok {ρ : Ev} {h : FHeap} {esz : Nat} {x : FV} {es : List (List FV)} (e : slElemsF h esz x = some es) : slElems (denH ρ h) esz (x.den ρ) = some (es.map (List.map (FV.den ρ))) := by
  unfold slElemsF at e
  split at e
  · cases e; simp [slElems]
  · split at e
    · rename_i hz
      cases e
      simp [slElems, hz]
    · cases e
  · split at e
    · rename_i hb
      split at e
      · rename_i hl
        cases e
        simp [slElems, denH_row hb, hl, List.map_take, List.map_drop]
      · cases e
    · cases e
  · cases e

def fieldF (off : Nat) : FV → Option FV
  | .ptr b i j => some (.ptr b i (j + off))
  | .iptr cs j => some (.iptr cs (j + off))
  | _ => none

theorem fieldF_ok {ρ : Ev} {off : Nat} {x v : FV} (e : fieldF off x = some v) : fieldV off (x.den ρ) = some (v.den ρ) := by
  unfold fieldF at e
  split at e <;> cases e <;> simp [fieldV]

def intOfF : FV → Option Int
  | .d (.int _ (.lit n)) => some n
  | _ => none

theorem intOfF_ok {ρ : Ev} {x : FV} {n : Int} (e : intOfF x = some n) : intOf? (x.den ρ) = some n := by
  unfold intOfF at e
  split at e <;> cases e
  simp [intOf?]

def indexAddrF (arr : Option Nat) (esz : Nat) (x ix : FV) : Option FV :=
  match intOfF ix with
  | some n =>
    match arr with
    | some len =>
      if 0 ≤ n ∧ n < len then
        match x with
        | .ptr b i j => some (.ptr b i (j + n.toNat * esz))
        | .iptr cs j => some (.iptr cs (j + n.toNat * esz))
        | _ => none
      else none
    | none =>
      match x with
      | .sl b off len z => if z = esz ∧ 0 ≤ n ∧ n < len then some (.ptr b (off + n.toNat) 0) else none
      | .d (.lst z es) =>
        if z = esz ∧ 0 ≤ n then
          match es[n.toNat]? with
          | some cs => some (.iptr cs 0)
          | none => none
        else none
      | _ => none
  | none => none

theorem indexAddrF_ok {ρ : Ev} {arr : Option Nat} {esz : Nat} {x ix v : FV} (e : indexAddrF arr esz x ix = some v) : indexAddrV arr esz (x.den ρ) (ix.den ρ) = some (v.den ρ) := by
  unfold indexAddrF at e
  split at e
  · rename_i n hn
    simp only [indexAddrV, intOfF_ok hn]
    split at e
    · split at e
      · rename_i hr
        dsimp only
        rw [if_pos hr]
        split at e <;> cases e <;> simp
      · cases e
    · split at e
      · split at e
        · rename_i hr
          cases e
          simp [hr]
        · cases e
      · split at e
        · rename_i hr
          split at e
          · rename_i hi
            cases e
            simp [hr, List.getElem?_map, hi]
          · cases e
        · cases e
      · cases e
  · cases e

def partF (cs : List FV) (off : Nat) (n : Option Nat) : Option FV :=
  match n with
  | none => cs[off]?
  | some n => if off + n ≤ cs.length then some (.agg ((cs.drop off).take n)) else none

theorem partF_ok {ρ : Ev} {cs : List FV} {off : Nat} {n : Option Nat} {v : FV} (e : partF cs off n = some v) : partV (cs.map (FV.den ρ)) off n = some (v.den ρ) := by
  unfold partF at e
  split at e
  · simp [partV, List.getElem?_map, e]
  · split at e
    · rename_i hl
      cases e
      simp [partV, hl, List.map_take, List.map_drop]
    · cases e

def fieldOfF (off : Nat) (n : Option Nat) : FV → Option FV
  | .agg cs => partF cs off n
  | _ => none

theorem fieldOfF_ok {ρ : Ev} {off : Nat} {n : Option Nat} {x v : FV} (e : fieldOfF off n x = some v) : fieldOfV off n (x.den ρ) = some (v.den ρ) := by
  unfold fieldOfF at e
  split at e
  · simpa [fieldOfV] using partF_ok e
  · cases e

def indexF (arr : Option (Nat × Nat × Bool)) (x ix : FV) : Option FV :=
  match intOfF ix with
  | some n =>
    match arr, x with
    | some (len, esz, isAgg), .agg cs => if 0 ≤ n ∧ n < len then partF cs (n.toNat * esz) (if isAgg then some esz else none) else none
    | none, .d (.str s) =>
      if 0 ≤ n then
        match s[n.toNat]? with
        | some b => some (.d (.int .u8 (.lit b.toNat)))
        | none => none
      else none
    | _, _ => none
  | none => none

theorem indexF_ok {ρ : Ev} {arr : Option (Nat × Nat × Bool)} {x ix v : FV} (e : indexF arr x ix = some v) : indexV arr (x.den ρ) (ix.den ρ) = some (v.den ρ) := by
  unfold indexF at e
  split at e
  · rename_i n hn
    simp only [indexV, intOfF_ok hn]
    split at e
    · split at e
      · rename_i hr
        simp only [den_agg]
        rw [if_pos hr]
        exact partF_ok e
      · cases e
    · split at e
      · rename_i hr
        simp only [den_d, den_str]
        rw [if_pos hr]
        split at e
        · rename_i hs
          cases e
          simp [hs]
        · cases e
      · cases e
    · cases e
  · cases e

def boundF : Option FV → Nat → Option Nat
  | none, d => some d
  | some v, _ =>
    match intOfF v with
    | some n => if 0 ≤ n then some n.toNat else none
    | none => none

theorem boundF_ok {ρ : Ev} {x : Option FV} {d r : Nat} (e : boundF x d = some r) : boundV (x.map (FV.den ρ)) d = some r := by
  unfold boundF at e
  split at e
  · cases e; rfl
  · split at e
    · rename_i n hn
      split at e
      · rename_i hz
        cases e
        simp [boundV, intOfF_ok hn, hz]
      · cases e
    · cases e

def sliceF (esz : Option Nat) (x : FV) (lo hi : Option FV) : Option FV :=
  match esz, x with
  | some n, .sl b off len z =>
    match boundF lo 0, boundF hi len with
    | some l, some u => if z = n ∧ l ≤ u ∧ u ≤ len then some (.sl b (off + l) (u - l) z) else none
    | _, _ => none
  | some n, .d (.lst z es) =>
    match boundF lo 0, boundF hi es.length with
    | some l, some u => if z = n ∧ l ≤ u ∧ u ≤ es.length then some (.d (.lst z ((es.drop l).take (u - l)))) else none
    | _, _ => none
  | some _, .d .nils =>
    match boundF lo 0, boundF hi 0 with
    | some 0, some 0 => some (.d .nils)
    | _, _ => none
  | none, .d (.str s) =>
    match boundF lo 0, boundF hi s.size with
    | some l, some u => if l ≤ u ∧ u ≤ s.size then some (.d (.str (s.extract l u))) else none
    | _, _ => none
  | _, _ => none

theorem sliceF_ok {ρ : Ev} {esz : Option Nat} {x v : FV} {lo hi : Option FV} (e : sliceF esz x lo hi = some v) : sliceV esz (x.den ρ) (lo.map (FV.den ρ)) (hi.map (FV.den ρ)) = some (v.den ρ) := by
  unfold sliceF at e
  split at e
  · split at e
    · rename_i hl hu
      split at e
      · rename_i hc
        cases e
        simp [sliceV, boundF_ok hl, boundF_ok hu, hc]
      · cases e
    · cases e
  · split at e
    · rename_i hl hu
      split at e
      · rename_i hc
        cases e
        simp [sliceV, boundF_ok hl, boundF_ok hu, hc, List.map_take, List.map_drop]
      · cases e
    · cases e
  · split at e
    · rename_i hl hu
      cases e
      simp [sliceV, boundF_ok hl, boundF_ok hu]
    · cases e
  · split at e
    · rename_i hl hu
      split at e
      · rename_i hc
        cases e
        simp [sliceV, boundF_ok hl, boundF_ok hu, hc]
      · cases e
    · cases e
  · cases e

def cutF (n : Nat) (x : FV) (lo hi : Option FV) : Option FV :=
  match x, boundF lo 0, boundF hi n with
  | .ptr .., some 0, some 0 => some .emp
  | .iptr .., some 0, some 0 => some .emp
  | _, _, _ => none

theorem cutF_ok {ρ : Ev} {n : Nat} {x v : FV} {lo hi : Option FV} (e : cutF n x lo hi = some v) : cutV n (x.den ρ) (lo.map (FV.den ρ)) (hi.map (FV.den ρ)) = some (v.den ρ) := by
  unfold cutF at e
  split at e
  · rename_i hl hu
    cases e
    simp [cutV, boundF_ok hl, boundF_ok hu]
  · rename_i hl hu
    cases e
    simp [cutV, boundF_ok hl, boundF_ok hu]
  · cases e

/-! ### Maps -/

def findKvF {α : Type} (fc : Facts) (kk : KK) (k : List FT) : List ((Bool × List FT) × α) → Option (Option α)
  | [] => some none
  | (a, x) :: rest =>
    if a.1 = kk.agg ∧ kindsOkF kk.ks a.2 = true then
      match sameCellsF fc k a.2 with
      | some true => some (some x)
      | some false => findKvF fc kk k rest
      | none => none
    else none

theorem findKvF_ok {α β : Type} {ρ : Ev} {fc : Facts} {kk : KK} {k : List FT} (g : α → β) (hf : FactsOk ρ fc) : ∀ {l : List ((Bool × List FT) × α)} {r : Option α}, findKvF fc kk k l = some r →
    findKv kk (k.map (FT.den ρ)) (l.map fun e => (denKey ρ e.1, g e.2)) = some (r.map g)
  | [], r, e => by cases e; rfl
  | (a, x) :: rest, r, e => by
    unfold findKvF at e
    split at e
    · rename_i hc
      simp only [List.map_cons, findKv, denKey, hc.1, kindsOkF_ok hc.2, and_self, if_true]
      split at e
      · rename_i hs
        cases e
        simp [sameCellsF_ok hf hs]
      · rename_i hs
        simp only [sameCellsF_ok hf hs]
        exact findKvF_ok g hf e
      · cases e
    · cases e

def setKvF (fc : Facts) (kk : KK) (k : List FT) (x : FV) : List ((Bool × List FT) × FV) → Option (List ((Bool × List FT) × FV))
  | [] => some [((kk.agg, k), x)]
  | (a, y) :: rest =>
    if a.1 = kk.agg ∧ kindsOkF kk.ks a.2 = true then
      match sameCellsF fc k a.2 with
      | some true => some (((kk.agg, k), x) :: rest)
      | some false =>
        match setKvF fc kk k x rest with
        | some r => some ((a, y) :: r)
        | none => none
      | none => none
    else none

theorem setKvF_ok {ρ : Ev} {fc : Facts} {kk : KK} {k : List FT} {x : FV} (hf : FactsOk ρ fc) : ∀ {l r : List ((Bool × List FT) × FV)}, setKvF fc kk k x l = some r →
    setKv kk (k.map (FT.den ρ)) (x.den ρ) (l.map fun e => (denKey ρ e.1, e.2.den ρ)) = some (r.map fun e => (denKey ρ e.1, e.2.den ρ))
  | [], r, e => by cases e; rfl
  | (a, y) :: rest, r, e => by
    unfold setKvF at e
    split at e
    · rename_i hc
      simp only [List.map_cons, setKv, denKey, hc.1, kindsOkF_ok hc.2, and_self, if_true]
      split at e
      · rename_i hs
        cases e
        simp [sameCellsF_ok hf hs]
      · rename_i hs
        simp only [sameCellsF_ok hf hs]
        split at e
        · rename_i r' hr
          cases e
          rw [show List.map (fun e => ((e.fst.fst, List.map (FT.den ρ) e.fst.snd), FV.den ρ e.snd)) rest = rest.map fun e => (denKey ρ e.1, e.2.den ρ) from rfl, setKvF_ok hf hr]
          simp [denKey, hc.1]
        · cases e
      · cases e
    · cases e

def ofCellsF : Bool × List FT → FV
  | (true, ts) => .agg (ts.map .d)
  | (false, t :: _) => .d t
  | (false, []) => .undef

theorem den_ofCells (ρ : Ev) (x : Bool × List FT) : (ofCellsF x).den ρ = ofCells (denKey ρ x) := by
  obtain ⟨b, ts⟩ := x
  cases b with
  | true => simp [ofCellsF, ofCells, denKey]
  | false => cases ts <;> simp [ofCellsF, ofCells, denKey]

def keyCellsF (kk : KK) (k : FV) : Option (List FT) :=
  if k.isAgg = kk.agg then
    match dataCellsF k.cells with
    | some ts => if kindsOkF kk.ks ts then some ts else none
    | none => none
  else none

theorem keyCellsF_ok {ρ : Ev} {kk : KK} {k : FV} {ts : List FT} (e : keyCellsF kk k = some ts) : keyCells kk (k.den ρ) = some (ts.map (FT.den ρ)) := by
  unfold keyCellsF at e
  split at e
  · rename_i ha
    split at e
    · rename_i us hd
      split at e
      · rename_i hk
        cases e
        simp only [keyCells, den_isAgg, ha, if_true, ← den_cells, dataCells_ok hd, kindsOkF_ok hk]
      · cases e
    · cases e
  · cases e

def findF (fc : Facts) (kk : KK) (h : FHeap) (m : FV) (k : List FT) : Option (Option FV) :=
  match m with
  | .d .nilm => some none
  | .d (.imap es) =>
    match findKvF fc kk k es with
    | some (some x) => some (some (ofCellsF x))
    | some none => some none
    | none => none
  | .map b =>
    match h.get b with
    | some (.map kvs) => findKvF fc kk k kvs
    | _ => none
  | _ => none

theorem findF_ok {ρ : Ev} {fc : Facts} {kk : KK} {h : FHeap} {m : FV} {k : List FT} {r : Option FV} (hf : FactsOk ρ fc) (e : findF fc kk h m k = some r) :
    findV kk (denH ρ h) (m.den ρ) (k.map (FT.den ρ)) = some (r.map (FV.den ρ)) := by
  unfold findF at e
  split at e
  · cases e; simp [findV]
  · split at e
    · rename_i x hx
      cases e
      have := findKvF_ok (denKey ρ) hf hx
      simp [findV, this, den_ofCells]
    · rename_i hx
      cases e
      have := findKvF_ok (denKey ρ) hf hx
      simp [findV, this]
    · cases e
  · split at e
    · rename_i hb
      simp only [den_map, findV, denH_map hb]
      exact findKvF_ok (FV.den ρ) hf e
    · cases e
  · cases e

def lookupF (fc : Facts) (kk : KK) (h : FHeap) (zero : FV) (ok : Bool) (m k : FV) : Option FV :=
  match keyCellsF kk k with
  | some ts =>
    match findF fc kk h m ts with
    | some (some v) => some (if ok then .tup [v, .d (.bool true)] else v)
    | some none => some (if ok then .tup [zero, .d (.bool false)] else zero)
    | none => none
  | none => none

theorem lookupF_ok {ρ : Ev} {fc : Facts} {kk : KK} {h : FHeap} {zero : V} {ok : Bool} {m k v : FV} (hf : FactsOk ρ fc) (e : lookupF fc kk h (liftV zero) ok m k = some v) :
    lookupV kk (denH ρ h) zero ok (m.den ρ) (k.den ρ) = some (v.den ρ) := by
  unfold lookupF at e
  split at e
  · rename_i ts hk
    simp only [lookupV, keyCellsF_ok hk]
    split at e
    · rename_i x hx
      cases e
      simp only [findF_ok hf hx, Option.map_some]
      split <;> simp [V.bool]
    · rename_i hx
      cases e
      simp only [findF_ok hf hx, Option.map_none]
      split <;> simp [V.bool]
    · cases e
  · cases e

def mapUpdateF (fc : Facts) (kk : KK) (h : FHeap) (m k x : FV) : Option FHeap :=
  match m, keyCellsF kk k with
  | .map b, some ts =>
    match h.get b with
    | some (.map kvs) =>
      match setKvF fc kk ts x kvs with
      | some kvs' => some (h.put b (some (.map kvs')))
      | none => none
    | _ => none
  | _, _ => none

theorem mapUpdateF_ok {ρ : Ev} {fc : Facts} {kk : KK} {h h' : FHeap} {m k x : FV} (hf : FactsOk ρ fc) (e : mapUpdateF fc kk h m k x = some h') :
    mapUpdateV kk (denH ρ h) (m.den ρ) (k.den ρ) (x.den ρ) = some (denH ρ h') := by
  unfold mapUpdateF at e
  split at e
  · rename_i b ts hk
    split at e
    · rename_i kvs hb
      split at e
      · rename_i kvs' hs
        cases e
        simp only [den_map, mapUpdateV, keyCellsF_ok hk, denH_map hb, setKvF_ok hf hs, denH_put, Option.map_some, den_mapB]
      · cases e
    · cases e
  · cases e

def lenF (h : FHeap) (k : LK) (x : FV) : Option FV :=
  match k, x with
  | .arr n, _ => some (.d (.int .i64 (.lit n)))
  | .str, .d (.str s) => some (.d (.int .i64 (.lit s.size)))
  | .slc, .d .nils => some (.d (.int .i64 (.lit 0)))
  | .slc, .d (.lst _ es) => some (.d (.int .i64 (.lit es.length)))
  | .slc, .sl _ _ len _ => some (.d (.int .i64 (.lit len)))
  | .slc, .emp => some (.d (.int .i64 (.lit 0)))
  | .map, .d .nilm => some (.d (.int .i64 (.lit 0)))
  | .map, .d (.imap es) => some (.d (.int .i64 (.lit es.length)))
  | .map, .map b =>
    match h.get b with
    | some (.map kvs) => some (.d (.int .i64 (.lit kvs.length)))
    | _ => none
  | _, _ => none

theorem lenF_ok {ρ : Ev} {h : FHeap} {k : LK} {x v : FV} (e : lenF h k x = some v) : lenV (denH ρ h) k (x.den ρ) = some (v.den ρ) := by
  unfold lenF at e
  split at e
  · cases e; simp [lenV, V.int]
  · cases e; simp [lenV, V.int]
  · cases e; simp [lenV, V.int]
  · cases e; simp [lenV, V.int]
  · cases e; simp [lenV, V.int]
  · cases e; simp [lenV, V.int]
  · cases e; simp [lenV, V.int]
  · cases e; simp [lenV, V.int]
  · split at e
    · rename_i hb
      cases e
      simp [lenV, denH_map hb, V.int]
    · cases e
  · cases e

/-! ### Iterators -/

def rangeF (h : FHeap) (x : FV) (fr : Nat) : Option (FV × FHeap) :=
  match x with
  | .d .nilm => some (.it fr none, h.put fr (some (.iter none 0 false)))
  | .map b =>
    match h.get b with
    | some (.map kvs) => some (.it fr (some b), h.put fr (some (.iter (some b) kvs.length false)))
    | _ => none
  | _ => none

theorem rangeF_ok {ρ : Ev} {h h' : FHeap} {x v : FV} {fr : Nat} (e : rangeF h x fr = some (v, h')) : rangeV (denH ρ h) (x.den ρ) fr = some (v.den ρ, denH ρ h') := by
  unfold rangeF at e
  split at e
  · cases e; simp [rangeV, denH_put]
  · split at e
    · rename_i hb
      cases e
      simp [rangeV, denH_map hb, denH_put]
    · cases e
  · cases e

theorem denH_iter {ρ : Ev} {h : FHeap} {b : Nat} {mb : Option Nat} {since : Nat} {seen : Bool} (e : h.get b = some (.iter mb since seen)) : denH ρ h b = some (.iter mb since seen) := by
  simp [denH, e]

def nextF (h : FHeap) (x : FV) : Option (FV × FHeap) :=
  match x with
  | .it b none =>
    match h.get b with
    | some (.iter none _ _) => some (.tup [.d (.bool false)], h)
    | _ => none
  | .it b (some mb) =>
    match h.get b with
    | some (.iter (some mb') since seen) =>
      match h.get mb with
      | some (.map kvs) =>
        if mb' = mb ∧ kvs.length = since then
          match kvs with
          | [] => some (.tup [.d (.bool false)], h)
          | [e] => if seen then some (.tup [.d (.bool false)], h) else some (.tup [.d (.bool true), ofCellsF e.1, e.2], h.put b (some (.iter (some mb) since true)))
          | _ => none
        else none
      | _ => none
    | _ => none
  | _ => none

theorem nextF_ok {ρ : Ev} {h h' : FHeap} {x v : FV} (e : nextF h x = some (v, h')) : nextV (denH ρ h) (x.den ρ) = some (v.den ρ, denH ρ h') := by
  unfold nextF at e
  split at e
  · split at e
    · rename_i hb
      cases e
      simp [nextV, denH_iter hb, V.bool]
    · cases e
  · split at e
    · rename_i hb
      split at e
      · rename_i hm
        split at e
        · rename_i hc
          simp only [den_it, nextV, denH_iter (ρ := ρ) hb, denH_map (ρ := ρ) hm, List.length_map]
          rw [if_pos hc]
          split at e
          · cases e; simp [V.bool]
          · split at e
            · rename_i hs
              cases e
              simp [hs, V.bool]
            · rename_i hs
              cases e
              simp [hs, V.bool, den_ofCells, denH_put]
          · cases e
        · cases e
      · cases e
    · cases e
  · cases e

def entryF (h : FHeap) (x : FV) : Option FV :=
  match x with
  | .it b (some mb) =>
    match h.get b with
    | some (.iter (some mb') since true) =>
      match h.get mb with
      | some (.map [e]) => if mb' = mb ∧ since = 1 then some (.tup [ofCellsF e.1, e.2]) else none
      | _ => none
    | _ => none
  | _ => none

theorem entryF_ok {ρ : Ev} {h : FHeap} {x v : FV} (e : entryF h x = some v) : entryV (denH ρ h) (x.den ρ) = some (v.den ρ) := by
  unfold entryF at e
  split at e
  · split at e
    · rename_i hb
      split at e
      · rename_i hm
        split at e
        · rename_i hc
          cases e
          simp only [den_it, entryV, denH_iter (ρ := ρ) hb, denH_map (ρ := ρ) hm, List.map_cons, List.map_nil]
          rw [if_pos hc]
          simp [den_ofCells]
        · cases e
      · cases e
    · cases e
  · cases e

/-! ### Structs, rows, appends -/

def fillF (ρ : DOpnd → FV) : List (Nat × Nat × DOpnd) → List FV → Option (List FV)
  | [], cells => some cells
  | (off, size, x) :: rest, cells =>
    if (ρ x).cells.length = size ∧ off + size ≤ cells.length then fillF ρ rest (cells.take off ++ ((ρ x).cells ++ cells.drop (off + size)))
    else none

theorem fillF_ok {ρ : Ev} {σ : DOpnd → FV} {τ : DOpnd → V} (hσ : ∀ x, τ x = (σ x).den ρ) : ∀ {l : List (Nat × Nat × DOpnd)} {cs r : List FV}, fillF σ l cs = some r →
    fillV τ l (cs.map (FV.den ρ)) = some (r.map (FV.den ρ))
  | [], cs, r, e => by cases e; rfl
  | (off, size, x) :: rest, cs, r, e => by
    unfold fillF at e
    split at e
    · rename_i hc
      have := fillF_ok hσ e
      simp only [List.map_append, List.map_take, List.map_drop, den_cells] at this
      simp only [fillV, hσ, cells_length, List.length_map, hc, and_self, if_true]
      exact this
    · cases e

def fillRowsF (ρ : DOpnd → FV) (esz : Nat) : List (Nat × DOpnd) → List (List FV) → Option (List (List FV))
  | [], es => some es
  | (i, x) :: rest, es =>
    if (ρ x).cells.length = esz ∧ i < es.length ∧ (ρ x).cells.all FV.one = true then fillRowsF ρ esz rest (es.set i (ρ x).cells)
    else none

theorem fillRowsF_ok {ρ : Ev} {σ : DOpnd → FV} {τ : DOpnd → V} {esz : Nat} (hσ : ∀ x, τ x = (σ x).den ρ) : ∀ {l : List (Nat × DOpnd)} {es r : List (List FV)}, fillRowsF σ esz l es = some r →
    fillRows τ esz l (es.map (List.map (FV.den ρ))) = some (r.map (List.map (FV.den ρ)))
  | [], es, r, e => by cases e; rfl
  | (i, x) :: rest, es, r, e => by
    unfold fillRowsF at e
    split at e
    · rename_i hc
      have := fillRowsF_ok hσ e
      simp only [List.map_set, den_cells] at this
      simp only [fillRows, hσ, cells_length, List.length_map, cells_one, hc, and_self, if_true]
      exact this
    · cases e

def appendF (esz bytes : Nat) (h : FHeap) (s x : FV) (fr : Nat) : Option (FV × FHeap) :=
  match slElemsF h esz x with
  | some xs =>
    match s with
    | .d .nils =>
      if xs.length = 0 then some (.d .nils, h)
      else if xs.length * bytes ≤ 140737488355328 then some (.sl fr 0 xs.length esz, h.put fr (some (.row xs)))
      else none
    | .sl b off len z =>
      match h.get b with
      | some (.row es) =>
        if z = esz ∧ off + len ≤ es.length ∧ (len + xs.length) * bytes ≤ 140737488355328 then
          some (.sl fr 0 (len + xs.length) esz, (h.put b none).put fr (some (.row ((es.drop off).take len ++ xs))))
        else none
      | _ => none
    | _ => none
  | none => none

theorem appendF_ok {ρ : Ev} {esz bytes : Nat} {h h' : FHeap} {s x v : FV} {fr : Nat} (e : appendF esz bytes h s x fr = some (v, h')) :
    appendV esz bytes (denH ρ h) (s.den ρ) (x.den ρ) fr = some (v.den ρ, denH ρ h') := by
  unfold appendF at e
  split at e
  · rename_i xs hx
    simp only [appendV, slElemsF_ok hx]
    split at e
    · split at e
      · rename_i h0
        cases e
        simp [h0]
      · rename_i h0
        split at e
        · rename_i hb
          cases e
          simp only [den_d, den_nils, List.length_map, h0, if_false, hb, if_true, den_sl, denH_put, Option.map_some, den_row]
        · cases e
    · split at e
      · rename_i hb
        split at e
        · rename_i hc
          cases e
          simp only [den_sl, denH_row hb, List.length_map, hc, and_self, if_true, denH_put, Option.map_some, Option.map_none, den_row, List.map_append, List.map_take, List.map_drop]
        · cases e
      · cases e
    · cases e
  · cases e

def makeSliceF (esz bytes : Nat) (zero : List FV) (h : FHeap) (len cap : FV) (fr : Nat) : Option (FV × FHeap) :=
  match intOfF len, intOfF cap with
  | some l, some c =>
    if 0 ≤ l ∧ l ≤ c ∧ bytes * c ≤ 2 ^ 48 ∧ c ≤ 9223372036854775807 ∧ zero.length = esz then
      some (.sl fr 0 l.toNat esz, h.put fr (some (.row (List.replicate l.toNat zero))))
    else none
  | _, _ => none

theorem makeSliceF_ok {ρ : Ev} {esz bytes : Nat} {zero : List V} {h h' : FHeap} {len cap v : FV} {fr : Nat} (e : makeSliceF esz bytes (zero.map lift0) h len cap fr = some (v, h')) :
    makeSliceV esz bytes zero (denH ρ h) (len.den ρ) (cap.den ρ) fr = some (v.den ρ, denH ρ h') := by
  unfold makeSliceF at e
  split at e
  · rename_i l c hl hc
    simp only [makeSliceV, intOfF_ok hl, intOfF_ok hc]
    split at e
    · rename_i hh
      cases e
      simp only [List.length_map] at hh
      rw [if_pos hh]
      simp only [den_sl, denH_put, Option.map_some, den_row, List.map_replicate, map_lift0]
    · cases e
  · cases e

def minmaxF (mx : Bool) (x y : FV) : Option FV :=
  match x, y with
  | .d (.int k (.lit a)), .d (.int _ (.lit b)) => some (.d (.int k (.lit (if mx then (if b > a then b else a) else (if b < a then b else a)))))
  | _, _ => none

theorem minmaxF_ok {ρ : Ev} {mx : Bool} {x y v : FV} (e : minmaxF mx x y = some v) : minmaxV mx (x.den ρ) (y.den ρ) = some (v.den ρ) := by
  unfold minmaxF at e
  split at e <;> cases e
  simp [minmaxV]

def hintOkF : Option FV → Bool
  | none => true
  | some v => (intOfF v).isSome

theorem hintOkF_ok {ρ : Ev} {x : Option FV} (e : hintOkF x = true) : hintOk (x.map (FV.den ρ)) = true := by
  cases x with
  | none => rfl
  | some v =>
    simp only [hintOkF, Option.isSome_iff_exists] at e
    obtain ⟨n, hn⟩ := e
    simp [hintOk, intOfF_ok hn]

def selF (c a b : FV) : Option FV :=
  match c with
  | .d (.bool t) => some (if t then a else b)
  | _ => none

theorem selF_ok {ρ : Ev} {c a b v : FV} (e : selF c a b = some v) : sel (c.den ρ) (a.den ρ) (b.den ρ) = some (v.den ρ) := by
  unfold selF at e
  split at e <;> cases e
  rename_i t
  cases t <;> simp [sel]

def notNilF : FV → Option FV
  | .ptr b i j => some (.ptr b i j)
  | .iptr cs j => some (.iptr cs j)
  | _ => none

theorem notNilF_ok {ρ : Ev} {x v : FV} (e : notNilF x = some v) : notNil (x.den ρ) = some (v.den ρ) := by
  unfold notNilF at e
  split at e <;> cases e <;> simp [notNil]

def extractF (ix : Nat) : FV → Option FV
  | .tup vs => vs[ix]?
  | _ => none

theorem extractF_ok {ρ : Ev} {ix : Nat} {x v : FV} (e : extractF ix x = some v) : extractV ix (x.den ρ) = some (v.den ρ) := by
  unfold extractF at e
  split at e
  · simp [extractV, List.getElem?_map, e]
  · cases e

def keepF (h : FHeap) (v : Option FV) : Option (FV × FHeap) :=
  match v with
  | some v => some (v, h)
  | none => none

def setF (h : Option FHeap) : Option (FV × FHeap) :=
  match h with
  | some h => some (.undef, h)
  | none => none

theorem keepF_ok {ρ : Ev} {h h' : FHeap} {x : Option FV} {v : FV} {y : Option V} (hy : ∀ v, x = some v → y = some (v.den ρ)) (e : keepF h x = some (v, h')) : keepH (denH ρ h) y = some (v.den ρ, denH ρ h') := by
  unfold keepF at e
  split at e
  · cases e; rw [hy _ rfl]; rfl
  · cases e

theorem setF_ok {ρ : Ev} {x : Option FHeap} {h' : FHeap} {v : FV} {y : Option Heap} (hy : ∀ h, x = some h → y = some (denH ρ h)) (e : setF x = some (v, h')) : setH y = some (v.den ρ, denH ρ h') := by
  unfold setF at e
  split at e
  · cases e; rw [hy _ rfl]; simp [setH]
  · cases e

def evalF (fc : Facts) (op : DOp) (ρ : DOpnd → FV) (h : FHeap) (fr : Nat) : Option (FV × FHeap) :=
  match op with
  | .move x => some (ρ x, h)
  | .pick c a b => keepF h (selF (ρ c) (ρ a) (ρ b))
  | .alloc zero => some (.ptr fr 0 0, h.put fr (some (.row [zero.map lift0])))
  | .box x => if (ρ x).cells.all FV.one then some (.ptr fr 0 0, h.put fr (some (.row [(ρ x).cells]))) else none
  | .build zero parts =>
    match fillF ρ parts (zero.map lift0) with
    | some cs => some (.agg cs, h)
    | none => none
  | .buildSlice esz len zero parts =>
    match fillRowsF ρ esz parts (List.replicate len (zero.map lift0)) with
    | some es => some (.sl fr 0 len esz, h.put fr (some (.row es)))
    | none => none
  | .load n a => keepF h (loadF h n (ρ a))
  | .store n a x => setF (storeF h n (ρ a) (ρ x))
  | .nilCheck x => keepF h (notNilF (ρ x))
  | .bin op kd x y => keepF h (binF fc op kd (ρ x) (ρ y))
  | .un op x => keepF h (unF fc op (ρ x))
  | .conv k x => keepF h (convF k (ρ x))
  | .makeMap r => if hintOkF (r.map ρ) then some (.map fr, h.put fr (some (.map []))) else none
  | .makeSlice esz bytes zero len cap => makeSliceF esz bytes (zero.map lift0) h (ρ len) (ρ cap) fr
  | .slice esz x lo hi => keepF h (sliceF esz (ρ x) (lo.map ρ) (hi.map ρ))
  | .fieldAddr off x => keepF h (fieldF off (ρ x))
  | .field off n x => keepF h (fieldOfF off n (ρ x))
  | .indexAddr arr esz x ix => keepF h (indexAddrF arr esz (ρ x) (ρ ix))
  | .index arr x ix => keepF h (indexF arr (ρ x) (ρ ix))
  | .lookup kk zero ok m k => keepF h (lookupF fc kk h (liftV zero) ok (ρ m) (ρ k))
  | .mapUpdate kk m k x => setF (mapUpdateF fc kk h (ρ m) (ρ k) (ρ x))
  | .extract x ix => keepF h (extractF ix (ρ x))
  | .len k x => keepF h (lenF h k (ρ x))
  | .minmax mx x y => keepF h (minmaxF mx (ρ x) (ρ y))
  | .append esz bytes _ s x => appendF esz bytes h (ρ s) (ρ x) fr
  | .makeFunc f caps => some (.fn f (caps.map ρ), h)
  | .range x => rangeF h (ρ x) fr
  | .next x => nextF h (ρ x)
  | .entry x => keepF h (entryF h (ρ x))
  | .cutArr n x lo hi => keepF h (cutF n (ρ x) (lo.map ρ) (hi.map ρ))
  | .call .. | .callv .. | .fail => none

theorem evalF_ok {ρ : Ev} {fc : Facts} {op : DOp} {σ : DOpnd → FV} {τ : DOpnd → V} {h h' : FHeap} {fr : Nat} {v : FV} (hf : FactsOk ρ fc) (hσ : ∀ x, τ x = (σ x).den ρ)
    (e : evalF fc op σ h fr = some (v, h')) : evalOp op τ (denH ρ h) fr = some (v.den ρ, denH ρ h') := by
  have hopt : ∀ x : Option DOpnd, x.map τ = (x.map σ).map (FV.den ρ) := fun x => by cases x <;> simp [hσ]
  cases op with
  | move x => cases e; simp [evalOp, hσ]
  | pick c a b => exact keepF_ok (fun v hv => by rw [hσ, hσ, hσ]; exact selF_ok hv) e
  | alloc zero =>
    simp only [evalF, Option.some.injEq, Prod.mk.injEq] at e
    obtain ⟨rfl, rfl⟩ := e
    simp only [evalOp, den_ptr, denH_put, Option.map_some, den_row, List.map_cons, List.map_nil, map_lift0]
  | box x =>
    simp only [evalF] at e
    split at e
    · rename_i hc
      cases e
      simp only [evalOp, hσ, cells_one, hc, if_true, den_ptr, denH_put, Option.map_some, den_row, List.map_cons, List.map_nil, den_cells]
    · cases e
  | build zero parts =>
    simp only [evalF] at e
    split at e
    · rename_i cs hc
      cases e
      have := fillF_ok hσ hc
      rw [map_lift0] at this
      simp [evalOp, this, keepH]
    · cases e
  | buildSlice esz len zero parts =>
    simp only [evalF] at e
    split at e
    · rename_i es hc
      cases e
      have := fillRowsF_ok hσ hc
      rw [List.map_replicate, map_lift0] at this
      simp only [evalOp, this, den_sl, denH_put, Option.map_some, den_row]
    · cases e
  | load n a => exact keepF_ok (fun v hv => by rw [hσ]; exact loadF_ok hv) e
  | store n a x => exact setF_ok (fun v hv => by rw [hσ, hσ]; exact storeF_ok hv) e
  | nilCheck x => exact keepF_ok (fun v hv => by rw [hσ]; exact notNilF_ok hv) e
  | bin op kd x y => exact keepF_ok (fun v hv => by rw [hσ, hσ]; exact binF_ok hf hv) e
  | un op x => exact keepF_ok (fun v hv => by rw [hσ]; exact unF_ok hf hv) e
  | conv k x => exact keepF_ok (fun v hv => by rw [hσ]; exact convF_ok hv) e
  | makeMap r =>
    simp only [evalF] at e
    split at e
    · rename_i hc
      cases e
      simp only [evalOp, hopt, hintOkF_ok hc, if_true, den_map, denH_put, Option.map_some, den_mapB, List.map_nil]
    · cases e
  | makeSlice esz bytes zero len cap =>
    simp only [evalF] at e
    simp only [evalOp, hσ]
    exact makeSliceF_ok e
  | slice esz x lo hi => exact keepF_ok (fun v hv => by rw [hσ, hopt, hopt]; exact sliceF_ok hv) e
  | fieldAddr off x => exact keepF_ok (fun v hv => by rw [hσ]; exact fieldF_ok hv) e
  | field off n x => exact keepF_ok (fun v hv => by rw [hσ]; exact fieldOfF_ok hv) e
  | indexAddr arr esz x ix => exact keepF_ok (fun v hv => by rw [hσ, hσ]; exact indexAddrF_ok hv) e
  | index arr x ix => exact keepF_ok (fun v hv => by rw [hσ, hσ]; exact indexF_ok hv) e
  | lookup kk zero ok m k => exact keepF_ok (fun v hv => by rw [hσ, hσ]; exact lookupF_ok hf hv) e
  | mapUpdate kk m k x => exact setF_ok (fun v hv => by rw [hσ, hσ, hσ]; exact mapUpdateF_ok hf hv) e
  | extract x ix => exact keepF_ok (fun v hv => by rw [hσ]; exact extractF_ok hv) e
  | len k x => exact keepF_ok (fun v hv => by rw [hσ]; exact lenF_ok hv) e
  | minmax mx x y => exact keepF_ok (fun v hv => by rw [hσ, hσ]; exact minmaxF_ok hv) e
  | append esz bytes z s x =>
    simp only [evalF] at e
    simp only [evalOp, hσ]
    exact appendF_ok e
  | makeFunc f caps =>
    cases e
    simp only [evalOp, den_fn, List.map_map]
    rw [show τ = FV.den ρ ∘ σ from funext hσ]
  | range x =>
    simp only [evalF] at e
    simp only [evalOp, hσ]
    exact rangeF_ok e
  | next x =>
    simp only [evalF] at e
    simp only [evalOp, hσ]
    exact nextF_ok e
  | entry x => exact keepF_ok (fun v hv => by rw [hσ]; exact entryF_ok hv) e
  | cutArr n x lo hi => exact keepF_ok (fun v hv => by rw [hσ, hopt, hopt]; exact cutF_ok hv) e
  | call => cases e
  | callv => cases e
  | fail => cases e

end Go.Df
