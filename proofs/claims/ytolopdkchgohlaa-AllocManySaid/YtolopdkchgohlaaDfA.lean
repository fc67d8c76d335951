/- The F machine: the D machine once more, with tries for its slots and blocks and with numbers that may be expressions in unknowns. This text: its values, and what they stand for. No condition. -/
import Derived.Test.YtolopdkchgohlaaDvT
namespace Go.Df
open Go.Dv

/-! ### Tries -/

inductive Tr (α : Type) where
  | nil
  | node (l : Tr α) (v : Option α) (r : Tr α)

def Tr.get {α : Type} : Tr α → Nat → Option α
  | .nil, _ => none
  | .node l v r, k => bif Nat.beq k 0 then v else bif Nat.beq (Nat.land k 1) 1 then l.get (Nat.shiftRight k 1) else r.get (Nat.sub (Nat.shiftRight k 1) 1)

def Tr.putN {α : Type} (x : Option α) : Nat → Tr α → Nat → Tr α
  | 0, t, _ => t
  | n + 1, .nil, k => bif Nat.beq k 0 then .node .nil x .nil else bif Nat.beq (Nat.land k 1) 1 then .node (Tr.putN x n .nil (Nat.shiftRight k 1)) none .nil else .node .nil none (Tr.putN x n .nil (Nat.sub (Nat.shiftRight k 1) 1))
  | n + 1, .node l v r, k => bif Nat.beq k 0 then .node l x r else bif Nat.beq (Nat.land k 1) 1 then .node (Tr.putN x n l (Nat.shiftRight k 1)) v r else .node l v (Tr.putN x n r (Nat.sub (Nat.shiftRight k 1) 1))

def Tr.put {α : Type} (t : Tr α) (k : Nat) (x : Option α) : Tr α := Tr.putN x (Nat.succ k) t k

theorem Tr.get_nil {α : Type} (k : Nat) : (Tr.nil : Tr α).get k = none := rfl

theorem Tr.get_node {α : Type} (l : Tr α) (v : Option α) (r : Tr α) (k : Nat) :
    (Tr.node l v r).get k = if k = 0 then v else if k % 2 = 1 then l.get (k / 2) else r.get (k / 2 - 1) := by
  show (bif Nat.beq k 0 then v else bif Nat.beq (k &&& 1) 1 then l.get (k >>> 1) else r.get (k >>> 1 - 1)) = _
  rw [Nat.and_one_is_mod, show k >>> 1 = k / 2 from Nat.shiftRight_succ k 0]
  by_cases h : k = 0
  · subst h; rfl
  · rw [if_neg h, show Nat.beq k 0 = false by cases k with | zero => exact absurd rfl h | succ n => rfl]
    by_cases h2 : k % 2 = 1
    · rw [if_pos h2, h2]; rfl
    · rw [if_neg h2, show k % 2 = 0 by omega]; rfl

theorem Tr.get_putN {α : Type} (x : Option α) : ∀ (n : Nat) (t : Tr α) (k j : Nat), k < n → (Tr.putN x n t k).get j = if j = k then x else t.get j
  | 0, _, _, _, h => absurd h (Nat.not_lt_zero _)
  | n + 1, t, k, j, h => by
    have ih := Tr.get_putN x n
    have hb : ∀ m : Nat, Nat.beq m 0 = decide (m = 0) := fun m => by cases m <;> rfl
    cases t with
    | nil =>
      show Tr.get (bif Nat.beq k 0 then .node .nil x .nil else bif Nat.beq (k &&& 1) 1 then .node (Tr.putN x n .nil (k >>> 1)) none .nil else .node .nil none (Tr.putN x n .nil (k >>> 1 - 1))) j = _
      rw [Nat.and_one_is_mod, show k >>> 1 = k / 2 from Nat.shiftRight_succ k 0, hb]
      by_cases h0 : k = 0
      · subst h0
        simp only [decide_true, cond_true, Tr.get_node, Tr.get_nil]
        by_cases hj : j = 0 <;> simp [hj]
      · simp only [h0, decide_false, cond_false, Tr.get_nil]
        by_cases h2 : k % 2 = 1
        · rw [h2]
          show Tr.get (Tr.node (Tr.putN x n .nil (k / 2)) none .nil) j = _
          rw [Tr.get_node, ih _ _ _ (by omega)]
          simp only [Tr.get_nil]
          by_cases hj : j = k
          · subst hj; simp [h0, h2]
          · by_cases hj0 : j = 0
            · simp [hj0, hj, Ne.symm h0]
            · by_cases hj2 : j % 2 = 1
              · have : ¬ j / 2 = k / 2 := by omega
                simp [hj0, hj2, this, hj]
              · simp [hj0, hj2, hj]
        · rw [show k % 2 = 0 by omega]
          show Tr.get (Tr.node .nil none (Tr.putN x n .nil (k / 2 - 1))) j = _
          rw [Tr.get_node, ih _ _ _ (by omega)]
          simp only [Tr.get_nil]
          by_cases hj : j = k
          · subst hj; simp [h0, h2]
          · by_cases hj0 : j = 0
            · simp [hj0, Ne.symm h0]
            · by_cases hj2 : j % 2 = 1
              · simp [hj0, hj2, hj]
              · have : ¬ j / 2 - 1 = k / 2 - 1 := by omega
                simp [hj0, hj2, this, hj]
    | node l v r =>
      show Tr.get (bif Nat.beq k 0 then .node l x r else bif Nat.beq (k &&& 1) 1 then .node (Tr.putN x n l (k >>> 1)) v r else .node l v (Tr.putN x n r (k >>> 1 - 1))) j = _
      rw [Nat.and_one_is_mod, show k >>> 1 = k / 2 from Nat.shiftRight_succ k 0, hb]
      by_cases h0 : k = 0
      · subst h0
        simp only [decide_true, cond_true, Tr.get_node]
        by_cases hj : j = 0 <;> simp [hj]
      · simp only [h0, decide_false, cond_false]
        by_cases h2 : k % 2 = 1
        · rw [h2]
          show Tr.get (Tr.node (Tr.putN x n l (k / 2)) v r) j = _
          rw [Tr.get_node, Tr.get_node, ih _ _ _ (by omega)]
          by_cases hj : j = k
          · subst hj; simp [h0, h2]
          · by_cases hj0 : j = 0
            · simp [hj0, Ne.symm h0]
            · by_cases hj2 : j % 2 = 1
              · have : ¬ j / 2 = k / 2 := by omega
                simp [hj0, hj2, this, hj]
              · simp [hj0, hj2, hj]
        · rw [show k % 2 = 0 by omega]
          show Tr.get (Tr.node l v (Tr.putN x n r (k / 2 - 1))) j = _
          rw [Tr.get_node, Tr.get_node, ih _ _ _ (by omega)]
          by_cases hj : j = k
          · subst hj; simp [h0, h2]
          · by_cases hj0 : j = 0
            · simp [hj0, Ne.symm h0]
            · by_cases hj2 : j % 2 = 1
              · simp [hj0, hj2, hj]
              · have : ¬ j / 2 - 1 = k / 2 - 1 := by omega
                simp [hj0, hj2, this, hj]

theorem Tr.get_put {α : Type} (t : Tr α) (k : Nat) (x : Option α) (j : Nat) : (t.put k x).get j = if j = k then x else t.get j :=
  Tr.get_putN x _ t k j (Nat.lt_succ_self k)

/-- No key from n on. -/
def Tr.under {α : Type} : Tr α → Nat → Bool
  | .nil, _ => true
  | .node l v r, n => (v.isNone || Nat.blt 0 n) && (l.under (Nat.div n 2) && r.under (Nat.div (Nat.sub n 1) 2))

theorem Tr.under_ok {α : Type} : ∀ (t : Tr α) (n k : Nat), t.under n = true → n ≤ k → t.get k = none
  | .nil, _, _, _, _ => rfl
  | .node l v r, n, k, h, hk => by
    simp only [Tr.under, Bool.and_eq_true, Bool.or_eq_true] at h
    obtain ⟨h1, h2, h3⟩ := h
    rw [Tr.get_node]
    have e1 : Nat.div n 2 = n / 2 := rfl
    have e2 : Nat.div (Nat.sub n 1) 2 = (n - 1) / 2 := rfl
    rw [e1] at h2
    rw [e2] at h3
    by_cases h0 : k = 0
    · rw [if_pos h0]
      rcases h1 with h1 | h1
      · simpa using h1
      · have : 0 < n := by
          have h1 : (0 + 1).ble n = true := h1
          exact Nat.le_of_ble_eq_true h1
        omega
    · rw [if_neg h0]
      split
      · exact Tr.under_ok l _ _ h2 (by omega)
      · exact Tr.under_ok r _ _ h3 (by omega)

/-! ### Values -/

/-- A number: known, or an expression in unknowns. -/
inductive E where
  | lit (n : Int)
  | var (i : Nat)
  | bin (op : BinOp) (k : IntKind) (a b : E)
  | wrap (k : IntKind) (a : E)
  deriving Inhabited

inductive FT where
  | bool (b : Bool)
  | int (k : IntKind) (e : E)
  | str (s : ByteArray)
  | nilp
  | nils
  | nilm
  | nilf
  | nili
  | lst (esz : Nat) (es : List (List FT))
  | imap (es : List ((Bool × List FT) × (Bool × List FT)))
  | raw (t : T)
  deriving Inhabited

inductive FV where
  | undef
  | d (t : FT)
  | ptr (b i j : Nat)
  | iptr (cells : List FT) (j : Nat)
  | sl (b off len esz : Nat)
  | map (b : Nat)
  | fn (f : Nat) (caps : List FV)
  | agg (cs : List FV)
  | tup (vs : List FV)
  | yield (b : Nat)
  | it (b : Nat) (mb : Option Nat)
  | emp
  | opq
  | raw (v : V)
  deriving Inhabited

inductive FBlk where
  | row (es : List (List FV))
  | map (kvs : List ((Bool × List FT) × FV))
  | loop (st : LSt) (tm : Tr FV) (sz : Nat) (ps : List Nat) (asg bd : DCode)
  | iter (mb : Option Nat) (since : Nat) (seen : Bool)

abbrev FHeap := Tr FBlk

abbrev Ev := Nat → Int

def opVal (op : BinOp) (k : IntKind) (a b : Int) : Int :=
  match intOp op k a b with
  | some (.d (.int _ n)) => n
  | _ => 0

def E.den (ρ : Ev) : E → Int
  | .lit n => n
  | .var i => ρ i
  | .bin op k a b => opVal op k (a.den ρ) (b.den ρ)
  | .wrap k a => k.wrap (a.den ρ)

mutual
def FT.den (ρ : Ev) : FT → T
  | .bool b => .bool b
  | .int k e => .int k (e.den ρ)
  | .str s => .str s
  | .nilp => .nilp
  | .nils => .nils
  | .nilm => .nilm
  | .nilf => .nilf
  | .nili => .nili
  | .lst z es => .lst z (denRows ρ es)
  | .imap es => .imap (denEnts ρ es)
  | .raw t => t
def denCells (ρ : Ev) : List FT → List T
  | [] => []
  | t :: ts => t.den ρ :: denCells ρ ts
def denRows (ρ : Ev) : List (List FT) → List (List T)
  | [] => []
  | e :: es => denCells ρ e :: denRows ρ es
def denEnts (ρ : Ev) : List ((Bool × List FT) × (Bool × List FT)) → List ((Bool × List T) × (Bool × List T))
  | [] => []
  | ((a, k), (b, x)) :: rest => ((a, denCells ρ k), (b, denCells ρ x)) :: denEnts ρ rest
end

def denKey (ρ : Ev) (a : Bool × List FT) : Bool × List T := (a.1, a.2.map (FT.den ρ))

theorem denCells_eq (ρ : Ev) : ∀ l, denCells ρ l = l.map (FT.den ρ)
  | [] => by rw [denCells]; rfl
  | t :: ts => by rw [denCells, denCells_eq ρ ts]; rfl

theorem denRows_eq (ρ : Ev) : ∀ l, denRows ρ l = l.map (List.map (FT.den ρ))
  | [] => by rw [denRows]; rfl
  | t :: ts => by rw [denRows, denRows_eq ρ ts, denCells_eq]; rfl

theorem denEnts_eq (ρ : Ev) : ∀ l, denEnts ρ l = l.map fun e => (denKey ρ e.1, denKey ρ e.2)
  | [] => by rw [denEnts]; rfl
  | ((a, k), (b, x)) :: ts => by rw [denEnts, denEnts_eq ρ ts, denCells_eq, denCells_eq]; rfl

mutual
def FV.den (ρ : Ev) : FV → V
  | .undef => .undef
  | .d t => .d (t.den ρ)
  | .ptr b i j => .ptr b i j
  | .iptr cs j => .iptr (cs.map (FT.den ρ)) j
  | .sl b off len z => .sl b off len z
  | .map b => .map b
  | .fn f caps => .fn f (denVs ρ caps)
  | .agg cs => .agg (denVs ρ cs)
  | .tup vs => .tup (denVs ρ vs)
  | .yield b => .yield b
  | .it b mb => .it b mb
  | .emp => .emp
  | .opq => .opq
  | .raw v => v
def denVs (ρ : Ev) : List FV → List V
  | [] => []
  | v :: vs => v.den ρ :: denVs ρ vs
end

theorem denVs_eq (ρ : Ev) : ∀ l, denVs ρ l = l.map (FV.den ρ)
  | [] => by rw [denVs]; rfl
  | t :: ts => by rw [denVs, denVs_eq ρ ts]; rfl

@[simp] theorem den_bool (ρ : Ev) (b : Bool) : FT.den ρ (.bool b) = .bool b := by rw [FT.den]
@[simp] theorem den_int (ρ : Ev) (k : IntKind) (e : E) : FT.den ρ (.int k e) = .int k (e.den ρ) := by rw [FT.den]
@[simp] theorem den_str (ρ : Ev) (s : ByteArray) : FT.den ρ (.str s) = .str s := by rw [FT.den]
@[simp] theorem den_nilp (ρ : Ev) : FT.den ρ .nilp = .nilp := by rw [FT.den]
@[simp] theorem den_nils (ρ : Ev) : FT.den ρ .nils = .nils := by rw [FT.den]
@[simp] theorem den_nilm (ρ : Ev) : FT.den ρ .nilm = .nilm := by rw [FT.den]
@[simp] theorem den_nilf (ρ : Ev) : FT.den ρ .nilf = .nilf := by rw [FT.den]
@[simp] theorem den_nili (ρ : Ev) : FT.den ρ .nili = .nili := by rw [FT.den]
@[simp] theorem den_lst (ρ : Ev) (z : Nat) (es : List (List FT)) : FT.den ρ (.lst z es) = .lst z (es.map (List.map (FT.den ρ))) := by rw [FT.den, denRows_eq]
@[simp] theorem den_imap (ρ : Ev) (es : List ((Bool × List FT) × (Bool × List FT))) : FT.den ρ (.imap es) = .imap (es.map fun e => (denKey ρ e.1, denKey ρ e.2)) := by rw [FT.den, denEnts_eq]
@[simp] theorem den_rawT (ρ : Ev) (t : T) : FT.den ρ (.raw t) = t := by rw [FT.den]
@[simp] theorem den_undef (ρ : Ev) : FV.den ρ .undef = .undef := by rw [FV.den]
@[simp] theorem den_d (ρ : Ev) (t : FT) : FV.den ρ (.d t) = .d (t.den ρ) := by rw [FV.den]
@[simp] theorem den_ptr (ρ : Ev) (b i j : Nat) : FV.den ρ (.ptr b i j) = .ptr b i j := by rw [FV.den]
@[simp] theorem den_iptr (ρ : Ev) (cs : List FT) (j : Nat) : FV.den ρ (.iptr cs j) = .iptr (cs.map (FT.den ρ)) j := by rw [FV.den]
@[simp] theorem den_sl (ρ : Ev) (b o l z : Nat) : FV.den ρ (.sl b o l z) = .sl b o l z := by rw [FV.den]
@[simp] theorem den_map (ρ : Ev) (b : Nat) : FV.den ρ (.map b) = .map b := by rw [FV.den]
@[simp] theorem den_fn (ρ : Ev) (f : Nat) (caps : List FV) : FV.den ρ (.fn f caps) = .fn f (caps.map (FV.den ρ)) := by rw [FV.den, denVs_eq]
@[simp] theorem den_agg (ρ : Ev) (cs : List FV) : FV.den ρ (.agg cs) = .agg (cs.map (FV.den ρ)) := by rw [FV.den, denVs_eq]
@[simp] theorem den_tup (ρ : Ev) (cs : List FV) : FV.den ρ (.tup cs) = .tup (cs.map (FV.den ρ)) := by rw [FV.den, denVs_eq]
@[simp] theorem den_emp (ρ : Ev) : FV.den ρ .emp = .emp := by rw [FV.den]
@[simp] theorem den_opq (ρ : Ev) : FV.den ρ .opq = .opq := by rw [FV.den]
@[simp] theorem den_it (ρ : Ev) (b : Nat) (mb : Option Nat) : FV.den ρ (.it b mb) = .it b mb := by rw [FV.den]
@[simp] theorem den_yield (ρ : Ev) (b : Nat) : FV.den ρ (.yield b) = .yield b := by rw [FV.den]
@[simp] theorem den_raw (ρ : Ev) (v : V) : FV.den ρ (.raw v) = v := by rw [FV.den]
@[simp] theorem den_lit (ρ : Ev) (n : Int) : E.den ρ (.lit n) = n := rfl

/-- The slots, as a list. -/
def denTm (ρ : Ev) (sz : Nat) (tm : Tr FV) : List V := (List.range sz).map fun i => ((tm.get i).getD .undef).den ρ

def FBlk.den (ρ : Ev) : FBlk → Blk
  | .row es => .row (es.map (List.map (FV.den ρ)))
  | .map kvs => .map (kvs.map fun e => (denKey ρ e.1, e.2.den ρ))
  | .loop st tm sz ps asg bd => .loop st (denTm ρ sz tm) ps asg bd
  | .iter mb since seen => .iter mb since seen

@[simp] theorem den_iter (ρ : Ev) (mb : Option Nat) (since : Nat) (seen : Bool) : FBlk.den ρ (.iter mb since seen) = .iter mb since seen := rfl
@[simp] theorem den_loop (ρ : Ev) (st : LSt) (tm : Tr FV) (sz : Nat) (ps : List Nat) (asg bd : DCode) : FBlk.den ρ (.loop st tm sz ps asg bd) = .loop st (denTm ρ sz tm) ps asg bd := rfl
@[simp] theorem den_row (ρ : Ev) (es : List (List FV)) : FBlk.den ρ (.row es) = .row (es.map (List.map (FV.den ρ))) := rfl
@[simp] theorem den_mapB (ρ : Ev) (kvs : List ((Bool × List FT) × FV)) : FBlk.den ρ (.map kvs) = .map (kvs.map fun e => (denKey ρ e.1, e.2.den ρ)) := rfl

def denH (ρ : Ev) (h : FHeap) : Heap := fun b => (h.get b).map (FBlk.den ρ)

theorem denH_put (ρ : Ev) (h : FHeap) (b : Nat) (x : Option FBlk) : denH ρ (h.put b x) = (denH ρ h).put b (x.map (FBlk.den ρ)) := by
  funext k
  simp only [denH, Heap.put, Tr.get_put]
  split <;> rfl

theorem denH_nil (ρ : Ev) : denH ρ .nil = Heap.none := rfl

/-! ### Constants -/

def liftT : T → FT
  | .bool b => .bool b
  | .int k n => .int k (.lit n)
  | .str s => .str s
  | .nilp => .nilp
  | .nils => .nils
  | .nilm => .nilm
  | .nilf => .nilf
  | .nili => .nili
  | t => .raw t

@[simp] theorem den_liftT (ρ : Ev) (t : T) : (liftT t).den ρ = t := by cases t <;> simp [liftT]

def lift0 : V → FV
  | .undef => .undef
  | .d t => .d (liftT t)
  | .ptr b i j => .ptr b i j
  | .iptr cs j => .iptr (cs.map .raw) j
  | .sl b o l z => .sl b o l z
  | .map b => .map b
  | .fn f [] => .fn f []
  | .yield b => .yield b
  | .it b mb => .it b mb
  | .emp => .emp
  | .opq => .opq
  | v => .raw v

@[simp] theorem den_lift0 (ρ : Ev) (v : V) : (lift0 v).den ρ = v := by
  cases v with
  | fn f caps => cases caps <;> simp [lift0]
  | iptr cs j =>
    simp only [lift0, den_iptr, List.map_map]
    rw [show (FT.den ρ ∘ FT.raw) = id from funext fun t => by simp]
    simp
  | _ => simp [lift0]

def liftV : V → FV
  | .agg cs => .agg (cs.map lift0)
  | v => lift0 v

theorem map_lift0 (ρ : Ev) (vs : List V) : (vs.map lift0).map (FV.den ρ) = vs := by
  rw [List.map_map, show (FV.den ρ ∘ lift0) = id from funext fun t => by simp]
  simp

@[simp] theorem den_liftV (ρ : Ev) (v : V) : (liftV v).den ρ = v := by
  cases v with
  | agg cs =>
    simp only [liftV, den_agg]
    rw [map_lift0]
  | _ => simp [liftV]

def FV.cells : FV → List FV
  | .agg cs => cs
  | .raw v => v.cells.map .raw
  | v => [v]

@[simp] theorem den_cells (ρ : Ev) (v : FV) : v.cells.map (FV.den ρ) = (v.den ρ).cells := by
  cases v with
  | raw v =>
    simp only [FV.cells, den_raw, List.map_map]
    rw [show (FV.den ρ ∘ FV.raw) = id from funext fun t => by simp]
    simp
  | _ => simp [FV.cells, V.cells]

theorem cells_length (ρ : Ev) (v : FV) : (v.den ρ).cells.length = v.cells.length := by rw [← den_cells, List.length_map]

def FV.one : FV → Bool
  | .undef => false
  | .agg _ => false
  | .tup _ => false
  | .raw v => v.one
  | _ => true

@[simp] theorem den_one (ρ : Ev) (v : FV) : (v.den ρ).one = v.one := by cases v <;> simp [FV.one, V.one]

theorem cells_one (ρ : Ev) (v : FV) : (v.den ρ).cells.all V.one = v.cells.all FV.one := by
  rw [← den_cells, List.all_map]
  congr 1
  funext x
  simp

def FV.isAgg : FV → Bool
  | .agg _ => true
  | .raw v => v.isAgg
  | _ => false

@[simp] theorem den_isAgg (ρ : Ev) (v : FV) : (v.den ρ).isAgg = v.isAgg := by cases v <;> simp [FV.isAgg, V.isAgg]

def FV.key : FV → List Nat
  | .it b none => [b]
  | .it b (some mb) => [b, mb]
  | .ptr b _ _ => [b]
  | .sl b _ _ _ => [b]
  | .map b => [b]
  | .raw v => v.key
  | _ => []

@[simp] theorem den_key (ρ : Ev) (v : FV) : (v.den ρ).key = v.key := by
  cases v with
  | it b mb => cases mb <;> simp [FV.key, V.key]
  | _ => simp [FV.key, V.key]

def FV.data? : FV → Option FT
  | .d t => some t
  | _ => none

theorem data?_ok {ρ : Ev} {v : FV} {t : FT} (h : v.data? = some t) : (v.den ρ).data? = some (t.den ρ) := by
  cases v <;> simp [FV.data?] at h <;> subst h <;> simp [V.data?]

def dataCellsF : List FV → Option (List FT)
  | [] => some []
  | v :: vs =>
    match v.data? with
    | some t =>
      match dataCellsF vs with
      | some ts => some (t :: ts)
      | none => none
    | none => none

theorem dataCells_ok {ρ : Ev} : ∀ {vs : List FV} {ts : List FT}, dataCellsF vs = some ts → dataCells (vs.map (FV.den ρ)) = some (ts.map (FT.den ρ))
  | [], ts, h => by cases h; rfl
  | v :: vs, ts, h => by
    unfold dataCellsF at h
    split at h
    · rename_i t ht
      split at h
      · rename_i us hus
        cases h
        simp only [List.map_cons, dataCells, data?_ok ht, dataCells_ok hus]
      · cases h
    · cases h

end Go.Df
