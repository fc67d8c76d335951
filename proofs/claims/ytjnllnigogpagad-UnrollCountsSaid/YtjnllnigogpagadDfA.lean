/- The F machine: the D machine once more, with tries for its slots and blocks and with numbers that may be expressions in unknowns. This text: its values, and what they stand for. No condition. -/
import Derived.Test.YtjnllnigogpagadDvT
namespace Go.Df
open Go.Dv

/-! ### Tries: for great keys -/

inductive Tb (α : Type) where
  | nil
  | node (l : Tb α) (v : Option α) (r : Tb α)

def Tb.get {α : Type} : Tb α → Nat → Option α
  | .nil, _ => none
  | .node l v r, k => bif Nat.beq k 0 then v else bif Nat.beq (Nat.land k 1) 1 then l.get (Nat.shiftRight k 1) else r.get (Nat.sub (Nat.shiftRight k 1) 1)

def Tb.putN {α : Type} (x : Option α) : Nat → Tb α → Nat → Tb α
  | 0, t, _ => t
  | n + 1, .nil, k => bif Nat.beq k 0 then .node .nil x .nil else bif Nat.beq (Nat.land k 1) 1 then .node (Tb.putN x n .nil (Nat.shiftRight k 1)) none .nil else .node .nil none (Tb.putN x n .nil (Nat.sub (Nat.shiftRight k 1) 1))
  | n + 1, .node l v r, k => bif Nat.beq k 0 then .node l x r else bif Nat.beq (Nat.land k 1) 1 then .node (Tb.putN x n l (Nat.shiftRight k 1)) v r else .node l v (Tb.putN x n r (Nat.sub (Nat.shiftRight k 1) 1))

def Tb.put {α : Type} (t : Tb α) (k : Nat) (x : Option α) : Tb α := Tb.putN x (Nat.succ k) t k

theorem Tb.get_nil {α : Type} (k : Nat) : (Tb.nil : Tb α).get k = none := rfl

theorem Tb.get_node {α : Type} (l : Tb α) (v : Option α) (r : Tb α) (k : Nat) :
    (Tb.node l v r).get k = if k = 0 then v else if k % 2 = 1 then l.get (k / 2) else r.get (k / 2 - 1) := by
  show (bif Nat.beq k 0 then v else bif Nat.beq (k &&& 1) 1 then l.get (k >>> 1) else r.get (k >>> 1 - 1)) = _
  rw [Nat.and_one_is_mod, show k >>> 1 = k / 2 from Nat.shiftRight_succ k 0]
  by_cases h : k = 0
  · subst h; rfl
  · rw [if_neg h, show Nat.beq k 0 = false by cases k with | zero => exact absurd rfl h | succ n => rfl]
    by_cases h2 : k % 2 = 1
    · rw [if_pos h2, h2]; rfl
    · rw [if_neg h2, show k % 2 = 0 by omega]; rfl

theorem Tb.get_putN {α : Type} (x : Option α) : ∀ (n : Nat) (t : Tb α) (k j : Nat), k < n → (Tb.putN x n t k).get j = if j = k then x else t.get j
  | 0, _, _, _, h => absurd h (Nat.not_lt_zero _)
  | n + 1, t, k, j, h => by
    have ih := Tb.get_putN x n
    have hb : ∀ m : Nat, Nat.beq m 0 = decide (m = 0) := fun m => by cases m <;> rfl
    cases t with
    | nil =>
      show Tb.get (bif Nat.beq k 0 then .node .nil x .nil else bif Nat.beq (k &&& 1) 1 then .node (Tb.putN x n .nil (k >>> 1)) none .nil else .node .nil none (Tb.putN x n .nil (k >>> 1 - 1))) j = _
      rw [Nat.and_one_is_mod, show k >>> 1 = k / 2 from Nat.shiftRight_succ k 0, hb]
      by_cases h0 : k = 0
      · subst h0
        simp only [decide_true, cond_true, Tb.get_node, Tb.get_nil]
        by_cases hj : j = 0 <;> simp [hj]
      · simp only [h0, decide_false, cond_false, Tb.get_nil]
        by_cases h2 : k % 2 = 1
        · rw [h2]
          show Tb.get (Tb.node (Tb.putN x n .nil (k / 2)) none .nil) j = _
          rw [Tb.get_node, ih _ _ _ (by omega)]
          simp only [Tb.get_nil]
          by_cases hj : j = k
          · subst hj; simp [h0, h2]
          · by_cases hj0 : j = 0
            · simp [hj0, Ne.symm h0]
            · by_cases hj2 : j % 2 = 1
              · have : ¬ j / 2 = k / 2 := by omega
                simp [hj0, hj2, this, hj]
              · simp [hj0, hj2, hj]
        · rw [show k % 2 = 0 by omega]
          show Tb.get (Tb.node .nil none (Tb.putN x n .nil (k / 2 - 1))) j = _
          rw [Tb.get_node, ih _ _ _ (by omega)]
          simp only [Tb.get_nil]
          by_cases hj : j = k
          · subst hj; simp [h0, h2]
          · by_cases hj0 : j = 0
            · simp [hj0, Ne.symm h0]
            · by_cases hj2 : j % 2 = 1
              · simp [hj0, hj2, hj]
              · have : ¬ j / 2 - 1 = k / 2 - 1 := by omega
                simp [hj0, hj2, this, hj]
    | node l v r =>
      show Tb.get (bif Nat.beq k 0 then .node l x r else bif Nat.beq (k &&& 1) 1 then .node (Tb.putN x n l (k >>> 1)) v r else .node l v (Tb.putN x n r (k >>> 1 - 1))) j = _
      rw [Nat.and_one_is_mod, show k >>> 1 = k / 2 from Nat.shiftRight_succ k 0, hb]
      by_cases h0 : k = 0
      · subst h0
        simp only [decide_true, cond_true, Tb.get_node]
        by_cases hj : j = 0 <;> simp [hj]
      · simp only [h0, decide_false, cond_false]
        by_cases h2 : k % 2 = 1
        · rw [h2]
          show Tb.get (Tb.node (Tb.putN x n l (k / 2)) v r) j = _
          rw [Tb.get_node, Tb.get_node, ih _ _ _ (by omega)]
          by_cases hj : j = k
          · subst hj; simp [h0, h2]
          · by_cases hj0 : j = 0
            · simp [hj0, Ne.symm h0]
            · by_cases hj2 : j % 2 = 1
              · have : ¬ j / 2 = k / 2 := by omega
                simp [hj0, hj2, this, hj]
              · simp [hj0, hj2, hj]
        · rw [show k % 2 = 0 by omega]
          show Tb.get (Tb.node l v (Tb.putN x n r (k / 2 - 1))) j = _
          rw [Tb.get_node, Tb.get_node, ih _ _ _ (by omega)]
          by_cases hj : j = k
          · subst hj; simp [h0, h2]
          · by_cases hj0 : j = 0
            · simp [hj0, Ne.symm h0]
            · by_cases hj2 : j % 2 = 1
              · simp [hj0, hj2, hj]
              · have : ¬ j / 2 - 1 = k / 2 - 1 := by omega
                simp [hj0, hj2, this, hj]

theorem Tb.get_put {α : Type} (t : Tb α) (k : Nat) (x : Option α) (j : Nat) : (t.put k x).get j = if j = k then x else t.get j :=
  Tb.get_putN x _ t k j (Nat.lt_succ_self k)

/-! ### Tries -/

inductive Dg where
  | d0 | d1 | d2 | d3 | d4 | d5 | d6 | d7
  deriving DecidableEq

structure N8 (β : Type) where
  c0 : β
  c1 : β
  c2 : β
  c3 : β
  c4 : β
  c5 : β
  c6 : β
  c7 : β

def N8.get {β : Type} (t : N8 β) : Dg → β
  | .d0 => t.c0
  | .d1 => t.c1
  | .d2 => t.c2
  | .d3 => t.c3
  | .d4 => t.c4
  | .d5 => t.c5
  | .d6 => t.c6
  | .d7 => t.c7

def N8.upd {β : Type} (f : β → β) (t : N8 β) : Dg → N8 β
  | .d0 => ⟨f t.c0, t.c1, t.c2, t.c3, t.c4, t.c5, t.c6, t.c7⟩
  | .d1 => ⟨t.c0, f t.c1, t.c2, t.c3, t.c4, t.c5, t.c6, t.c7⟩
  | .d2 => ⟨t.c0, t.c1, f t.c2, t.c3, t.c4, t.c5, t.c6, t.c7⟩
  | .d3 => ⟨t.c0, t.c1, t.c2, f t.c3, t.c4, t.c5, t.c6, t.c7⟩
  | .d4 => ⟨t.c0, t.c1, t.c2, t.c3, f t.c4, t.c5, t.c6, t.c7⟩
  | .d5 => ⟨t.c0, t.c1, t.c2, t.c3, t.c4, f t.c5, t.c6, t.c7⟩
  | .d6 => ⟨t.c0, t.c1, t.c2, t.c3, t.c4, t.c5, f t.c6, t.c7⟩
  | .d7 => ⟨t.c0, t.c1, t.c2, t.c3, t.c4, t.c5, t.c6, f t.c7⟩

theorem N8.get_upd {β : Type} (f : β → β) (t : N8 β) (i j : Dg) : (t.upd f i).get j = if j = i then f (t.get i) else t.get j := by
  cases i <;> cases j <;> rfl

def N8.const {β : Type} (x : β) : N8 β := ⟨x, x, x, x, x, x, x, x⟩
theorem N8.get_const {β : Type} (x : β) (i : Dg) : (N8.const x).get i = x := by cases i <;> rfl

def Dg.nat : Dg → Nat
  | .d0 => 0
  | .d1 => 1
  | .d2 => 2
  | .d3 => 3
  | .d4 => 4
  | .d5 => 5
  | .d6 => 6
  | .d7 => 7

def dg : Nat → Dg
  | 0 => .d0
  | 1 => .d1
  | 2 => .d2
  | 3 => .d3
  | 4 => .d4
  | 5 => .d5
  | 6 => .d6
  | _ => .d7

theorem dg_nat {n : Nat} (h : n < 8) : (dg n).nat = n := by
  match n, h with
  | 0, _ => rfl
  | 1, _ => rfl
  | 2, _ => rfl
  | 3, _ => rfl
  | 4, _ => rfl
  | 5, _ => rfl
  | 6, _ => rfl
  | 7, _ => rfl

/-- The way to a key. -/
inductive Pa where
  | a (i j : Dg)
  | b (i j k : Dg)
  | c (i j k l m n : Dg)
  | r (k : Nat)
  deriving DecidableEq

def pa (k : Nat) : Pa :=
  bif Nat.ble (Nat.succ k) 64 then .a (dg (Nat.div k 8)) (dg (Nat.mod k 8))
  else bif Nat.ble (Nat.succ k) 576 then .b (dg (Nat.div (Nat.sub k 64) 64)) (dg (Nat.mod (Nat.div (Nat.sub k 64) 8) 8)) (dg (Nat.mod (Nat.sub k 64) 8))
  else bif Nat.ble (Nat.succ k) 262144 then .c (dg (Nat.div k 32768)) (dg (Nat.mod (Nat.div k 4096) 8)) (dg (Nat.mod (Nat.div k 512) 8)) (dg (Nat.mod (Nat.div k 64) 8)) (dg (Nat.mod (Nat.div k 8) 8)) (dg (Nat.mod k 8))
  else .r k

def Pa.nat : Pa → Nat
  | .a i j => 8 * i.nat + j.nat
  | .b i j k => 64 + (64 * i.nat + 8 * j.nat + k.nat)
  | .c i j k l m n => 32768 * i.nat + 4096 * j.nat + 512 * k.nat + 64 * l.nat + 8 * m.nat + n.nat
  | .r k => k

theorem pa_nat (k : Nat) : (pa k).nat = k := by
  have e8 : ∀ n, Nat.mod n 8 = n % 8 := fun _ => rfl
  have ed : ∀ n m, Nat.div n m = n / m := fun _ _ => rfl
  have es : ∀ n m, Nat.sub n m = n - m := fun _ _ => rfl
  unfold pa
  cases h1 : Nat.ble (Nat.succ k) 64 with
  | true =>
    have h1 : k + 1 ≤ 64 := Nat.le_of_ble_eq_true h1
    show 8 * (dg (Nat.div k 8)).nat + (dg (Nat.mod k 8)).nat = k
    rw [e8, ed, dg_nat (by omega), dg_nat (by omega)]; omega
  | false =>
    cases h2 : Nat.ble (Nat.succ k) 576 with
    | true =>
      have h2 : k + 1 ≤ 576 := Nat.le_of_ble_eq_true h2
      have h1 : ¬ k + 1 ≤ 64 := fun h => by rw [Nat.ble_eq_true_of_le h] at h1; cases h1
      show 64 + (64 * (dg (Nat.div (Nat.sub k 64) 64)).nat + 8 * (dg (Nat.mod (Nat.div (Nat.sub k 64) 8) 8)).nat + (dg (Nat.mod (Nat.sub k 64) 8)).nat) = k
      rw [e8, e8, ed, ed, es, dg_nat (by omega), dg_nat (by omega), dg_nat (by omega)]; omega
    | false =>
      cases h3 : Nat.ble (Nat.succ k) 262144 with
      | true =>
        have h3 : k + 1 ≤ 262144 := Nat.le_of_ble_eq_true h3
        show 32768 * (dg (Nat.div k 32768)).nat + 4096 * (dg (Nat.mod (Nat.div k 4096) 8)).nat + 512 * (dg (Nat.mod (Nat.div k 512) 8)).nat + 64 * (dg (Nat.mod (Nat.div k 64) 8)).nat + 8 * (dg (Nat.mod (Nat.div k 8) 8)).nat + (dg (Nat.mod k 8)).nat = k
        simp only [e8, ed]
        rw [dg_nat (by omega), dg_nat (by omega), dg_nat (by omega), dg_nat (by omega), dg_nat (by omega), dg_nat (by omega)]; omega
      | false => rfl

theorem pa_inj {j k : Nat} : pa j = pa k ↔ j = k := ⟨fun h => by rw [← pa_nat j, h, pa_nat], fun h => by rw [h]⟩

abbrev L1 (α : Type) := N8 (Option α)
abbrev L2 (α : Type) := N8 (L1 α)
abbrev L3 (α : Type) := N8 (L2 α)
abbrev L4 (α : Type) := N8 (L3 α)
abbrev L5 (α : Type) := N8 (L4 α)
abbrev L6 (α : Type) := N8 (L5 α)

structure Tr (α : Type) where
  a : L2 α
  b : Option (L3 α)
  c : Option (L6 α)
  r : Tb α

def none1 (α : Type) : L1 α := .const none
def none2 (α : Type) : L2 α := .const (none1 α)
def none3 (α : Type) : L3 α := .const (none2 α)
def none6 (α : Type) : L6 α := .const (.const (.const (none3 α)))

def Tr.nil {α : Type} : Tr α := ⟨none2 α, none, none, .nil⟩

def Tr.getP {α : Type} (t : Tr α) : Pa → Option α
  | .a i j => (t.a.get i).get j
  | .b i j k => match t.b with | some t => ((t.get i).get j).get k | none => none
  | .c i j k l m n => match t.c with | some t => (((((t.get i).get j).get k).get l).get m).get n | none => none
  | .r k => t.r.get k

def Tr.putP {α : Type} (x : Option α) (t : Tr α) : Pa → Tr α
  | .a i j => ⟨t.a.upd (fun t => t.upd (fun _ => x) j) i, t.b, t.c, t.r⟩
  | .b i j k => ⟨t.a, some ((t.b.getD (none3 α)).upd (fun t => t.upd (fun t => t.upd (fun _ => x) k) j) i), t.c, t.r⟩
  | .c i j k l m n => ⟨t.a, t.b, some ((t.c.getD (none6 α)).upd (fun t => t.upd (fun t => t.upd (fun t => t.upd (fun t => t.upd (fun t => t.upd (fun _ => x) n) m) l) k) j) i), t.r⟩
  | .r k => ⟨t.a, t.b, t.c, t.r.put k x⟩

def Tr.get {α : Type} (t : Tr α) (k : Nat) : Option α := t.getP (pa k)
def Tr.put {α : Type} (t : Tr α) (k : Nat) (x : Option α) : Tr α := t.putP x (pa k)

theorem Tr.getP_nil {α : Type} (p : Pa) : (Tr.nil : Tr α).getP p = none := by
  cases p with
  | a i j => show (N8.get (N8.get (N8.const (N8.const none)) i) j) = none; rw [N8.get_const, N8.get_const]
  | _ => rfl

theorem Tr.get_nil {α : Type} (k : Nat) : (Tr.nil : Tr α).get k = none := Tr.getP_nil _

theorem none3_get {α : Type} (i j k : Dg) : (((none3 α).get i).get j).get k = none := by
  show N8.get (N8.get (N8.get (N8.const (N8.const (N8.const none))) i) j) k = none
  rw [N8.get_const, N8.get_const, N8.get_const]

theorem none6_get {α : Type} (i j k l m n : Dg) : ((((((none6 α).get i).get j).get k).get l).get m).get n = none := by
  show N8.get (N8.get (N8.get (N8.get (N8.get (N8.get (N8.const (N8.const (N8.const (N8.const (N8.const (N8.const none)))))) i) j) k) l) m) n = none
  rw [N8.get_const, N8.get_const, N8.get_const, N8.get_const, N8.get_const, N8.get_const]

theorem getB {α : Type} (t : Tr α) (i j k : Dg) : t.getP (.b i j k) = (((t.b.getD (none3 α)).get i).get j).get k := by
  show (match t.b with | some t => ((t.get i).get j).get k | none => none) = _
  cases t.b with
  | none => exact (none3_get i j k).symm
  | some t => rfl

theorem getC {α : Type} (t : Tr α) (i j k l m n : Dg) : t.getP (.c i j k l m n) = ((((((t.c.getD (none6 α)).get i).get j).get k).get l).get m).get n := by
  show (match t.c with | some t => (((((t.get i).get j).get k).get l).get m).get n | none => none) = _
  cases t.c with
  | none => exact (none6_get i j k l m n).symm
  | some t => rfl

theorem Tr.getP_putP {α : Type} (t : Tr α) (p : Pa) (x : Option α) (q : Pa) : (t.putP x p).getP q = if q = p then x else t.getP q := by
  cases p with
  | a i j =>
    cases q with
    | a i' j' =>
      show (((t.a.upd (fun t => t.upd (fun _ => x) j) i).get i').get j') = _
      rw [N8.get_upd]
      by_cases h : i' = i
      · subst h
        rw [if_pos rfl, N8.get_upd]
        by_cases h2 : j' = j
        · subst h2; rw [if_pos rfl, if_pos rfl]
        · rw [if_neg h2, if_neg (fun e => h2 (by cases e; rfl))]; rfl
      · rw [if_neg h, if_neg (fun e => h (by cases e; rfl))]; rfl
    | _ => rw [if_neg (fun e => by cases e)]; rfl
  | b i j k =>
    cases q with
    | b i' j' k' =>
      rw [getB, getB]
      show (((((t.b.getD (none3 α)).upd (fun t => t.upd (fun t => t.upd (fun _ => x) k) j) i).get i').get j').get k') = _
      rw [N8.get_upd]
      by_cases h : i' = i
      · subst h
        rw [if_pos rfl, N8.get_upd]
        by_cases h2 : j' = j
        · subst h2
          rw [if_pos rfl, N8.get_upd]
          by_cases h3 : k' = k
          · subst h3; rw [if_pos rfl, if_pos rfl]
          · rw [if_neg h3, if_neg (fun e => h3 (by cases e; rfl))]
        · rw [if_neg h2, if_neg (fun e => h2 (by cases e; rfl))]
      · rw [if_neg h, if_neg (fun e => h (by cases e; rfl))]
    | _ => rw [if_neg (fun e => by cases e)]; rfl
  | c i j k l m n =>
    cases q with
    | c i' j' k' l' m' n' =>
      rw [getC, getC]
      show ((((((((t.c.getD (none6 α)).upd (fun t => t.upd (fun t => t.upd (fun t => t.upd (fun t => t.upd (fun t => t.upd (fun _ => x) n) m) l) k) j) i).get i').get j').get k').get l').get m').get n') = _
      rw [N8.get_upd]
      by_cases h : i' = i
      · subst h
        rw [if_pos rfl, N8.get_upd]
        by_cases h2 : j' = j
        · subst h2
          rw [if_pos rfl, N8.get_upd]
          by_cases h3 : k' = k
          · subst h3
            rw [if_pos rfl, N8.get_upd]
            by_cases h4 : l' = l
            · subst h4
              rw [if_pos rfl, N8.get_upd]
              by_cases h5 : m' = m
              · subst h5
                rw [if_pos rfl, N8.get_upd]
                by_cases h6 : n' = n
                · subst h6; rw [if_pos rfl, if_pos rfl]
                · rw [if_neg h6, if_neg (fun e => h6 (by cases e; rfl))]
              · rw [if_neg h5, if_neg (fun e => h5 (by cases e; rfl))]
            · rw [if_neg h4, if_neg (fun e => h4 (by cases e; rfl))]
          · rw [if_neg h3, if_neg (fun e => h3 (by cases e; rfl))]
        · rw [if_neg h2, if_neg (fun e => h2 (by cases e; rfl))]
      · rw [if_neg h, if_neg (fun e => h (by cases e; rfl))]
    | _ => rw [if_neg (fun e => by cases e)]; rfl
  | r k =>
    cases q with
    | r k' =>
      show (t.r.put k x).get k' = _
      rw [Tb.get_put]
      by_cases h : k' = k
      · subst h; rw [if_pos rfl, if_pos rfl]
      · rw [if_neg h, if_neg (fun e => h (by cases e; rfl))]; rfl
    | _ => rw [if_neg (fun e => by cases e)]; rfl

theorem Tr.get_put {α : Type} (t : Tr α) (k : Nat) (x : Option α) (j : Nat) : (t.put k x).get j = if j = k then x else t.get j := by
  show (t.putP x (pa k)).getP (pa j) = _
  rw [Tr.getP_putP]
  by_cases h : j = k
  · rw [if_pos h, if_pos (pa_inj.2 h)]
  · rw [if_neg h, if_neg (fun e => h (pa_inj.1 e))]; rfl

def under8 {β : Type} (f : β → Nat → Bool) (w : Nat) (t : N8 β) (base : Nat) : Bool :=
  f t.c0 (Nat.add base (Nat.mul 0 w)) && (f t.c1 (Nat.add base (Nat.mul 1 w)) && (f t.c2 (Nat.add base (Nat.mul 2 w)) && (f t.c3 (Nat.add base (Nat.mul 3 w)) && (f t.c4 (Nat.add base (Nat.mul 4 w)) && (f t.c5 (Nat.add base (Nat.mul 5 w)) && (f t.c6 (Nat.add base (Nat.mul 6 w)) && (f t.c7 (Nat.add base (Nat.mul 7 w)))))))))

theorem under8_ok {β : Type} {f : β → Nat → Bool} {w : Nat} {t : N8 β} {base : Nat} (h : under8 f w t base = true) (i : Dg) : f (t.get i) (base + i.nat * w) = true := by
  simp only [under8, Bool.and_eq_true] at h
  obtain ⟨h0, h1, h2, h3, h4, h5, h6, h7⟩ := h
  cases i <;> assumption

def freeAt {α : Type} (n : Nat) (x : Option α) (k : Nat) : Bool := bif Nat.ble n k then x.isNone else true

theorem freeAt_ok {α : Type} {n : Nat} {x : Option α} {k : Nat} (h : freeAt n x k = true) (hk : n ≤ k) : x = none := by
  unfold freeAt at h
  rw [Nat.ble_eq_true_of_le hk] at h
  cases x with
  | none => rfl
  | some _ => cases h

/-- No key from n on. -/
def Tr.under {α : Type} (t : Tr α) (n : Nat) : Bool :=
  under8 (under8 (freeAt n) 1) 8 t.a 0 && ((match t.b with | none => true | some t => under8 (under8 (under8 (freeAt n) 1) 8) 64 t 64) && (t.c.isNone && (match t.r with | .nil => true | _ => false)))

theorem Tr.under_ok {α : Type} (t : Tr α) (n k : Nat) (h : t.under n = true) (hk : n ≤ k) : t.get k = none := by
  simp only [Tr.under, Bool.and_eq_true] at h
  obtain ⟨ha, hb, hc, hr⟩ := h
  have hn := pa_nat k
  show t.getP (pa k) = none
  cases hp : pa k with
  | a i j =>
    rw [hp] at hn
    have := under8_ok (under8_ok ha i) j
    exact freeAt_ok this (by show n ≤ 0 + i.nat * 8 + j.nat * 1; have : 8 * i.nat + j.nat = k := hn; omega)
  | b i j l =>
    rw [hp] at hn
    show (match t.b with | some t => ((t.get i).get j).get l | none => none) = none
    cases htb : t.b with
    | none => rfl
    | some s =>
      rw [htb] at hb
      have := under8_ok (under8_ok (under8_ok hb i) j) l
      exact freeAt_ok this (by show n ≤ 64 + i.nat * 64 + j.nat * 8 + l.nat * 1; have : 64 + (64 * i.nat + 8 * j.nat + l.nat) = k := hn; omega)
  | c i j l m o q =>
    show (match t.c with | some t => (((((t.get i).get j).get l).get m).get o).get q | none => none) = none
    cases htc : t.c with
    | none => rfl
    | some s => rw [htc] at hc; cases hc
  | r l =>
    show t.r.get l = none
    cases htr : t.r with
    | nil => rfl
    | node _ _ _ => rw [htr] at hr; cases hr

/-! ### Values -/

/-- A number: known, or an expression in unknowns. -/
inductive E where
  | lit (n : Int)
  | var (i : Nat)
  | bin (op : BinOp) (k : IntKind) (a b : E)
  | wrap (k : IntKind) (a : E)
  deriving Inhabited

inductive FT where
  | bool (b : Bool)
  | int (k : IntKind) (e : E)
  | str (s : ByteArray)
  | nilp
  | nils
  | nilm
  | nilf
  | nili
  | lst (esz : Nat) (es : List (List FT))
  | imap (es : List ((Bool × List FT) × (Bool × List FT)))
  | raw (t : T)
  deriving Inhabited

inductive FV where
  | undef
  | d (t : FT)
  | ptr (b i j : Nat)
  | iptr (cells : List FT) (j : Nat)
  | sl (b off len esz : Nat)
  | map (b : Nat)
  | fn (f : Nat) (caps : List FV)
  | agg (cs : List FV)
  | tup (vs : List FV)
  | yield (b : Nat)
  | it (b : Nat) (mb : Option Nat)
  | emp
  | opq
  | raw (v : V)
  deriving Inhabited

inductive FBlk where
  | row (es : List (List FV))
  | map (kvs : List ((Bool × List FT) × FV))
  | loop (st : LSt) (tm : Tr FV) (sz : Nat) (ps : List Nat) (asg bd : DCode)
  | iter (mb : Option Nat) (since : Nat) (seen : Bool)

abbrev FHeap := Tr FBlk

abbrev Ev := Nat → Int

def opVal (op : BinOp) (k : IntKind) (a b : Int) : Int :=
  match intOp op k a b with
  | some (.d (.int _ n)) => n
  | _ => 0

def E.den (ρ : Ev) : E → Int
  | .lit n => n
  | .var i => ρ i
  | .bin op k a b => opVal op k (a.den ρ) (b.den ρ)
  | .wrap k a => k.wrap (a.den ρ)

mutual
def FT.den (ρ : Ev) : FT → T
  | .bool b => .bool b
  | .int k e => .int k (e.den ρ)
  | .str s => .str s
  | .nilp => .nilp
  | .nils => .nils
  | .nilm => .nilm
  | .nilf => .nilf
  | .nili => .nili
  | .lst z es => .lst z (denRows ρ es)
  | .imap es => .imap (denEnts ρ es)
  | .raw t => t
def denCells (ρ : Ev) : List FT → List T
  | [] => []
  | t :: ts => t.den ρ :: denCells ρ ts
def denRows (ρ : Ev) : List (List FT) → List (List T)
  | [] => []
  | e :: es => denCells ρ e :: denRows ρ es
def denEnts (ρ : Ev) : List ((Bool × List FT) × (Bool × List FT)) → List ((Bool × List T) × (Bool × List T))
  | [] => []
  | ((a, k), (b, x)) :: rest => ((a, denCells ρ k), (b, denCells ρ x)) :: denEnts ρ rest
end

def denKey (ρ : Ev) (a : Bool × List FT) : Bool × List T := (a.1, a.2.map (FT.den ρ))

theorem denCells_eq (ρ : Ev) : ∀ l, denCells ρ l = l.map (FT.den ρ)
  | [] => by rw [denCells]; rfl
  | t :: ts => by rw [denCells, denCells_eq ρ ts]; rfl

theorem denRows_eq (ρ : Ev) : ∀ l, denRows ρ l = l.map (List.map (FT.den ρ))
  | [] => by rw [denRows]; rfl
  | t :: ts => by rw [denRows, denRows_eq ρ ts, denCells_eq]; rfl

theorem denEnts_eq (ρ : Ev) : ∀ l, denEnts ρ l = l.map fun e => (denKey ρ e.1, denKey ρ e.2)
  | [] => by rw [denEnts]; rfl
  | ((a, k), (b, x)) :: ts => by rw [denEnts, denEnts_eq ρ ts, denCells_eq, denCells_eq]; rfl

mutual
def FV.den (ρ : Ev) : FV → V
  | .undef => .undef
  | .d t => .d (t.den ρ)
  | .ptr b i j => .ptr b i j
  | .iptr cs j => .iptr (cs.map (FT.den ρ)) j
  | .sl b off len z => .sl b off len z
  | .map b => .map b
  | .fn f caps => .fn f (denVs ρ caps)
  | .agg cs => .agg (denVs ρ cs)
  | .tup vs => .tup (denVs ρ vs)
  | .yield b => .yield b
  | .it b mb => .it b mb
  | .emp => .emp
  | .opq => .opq
  | .raw v => v
def denVs (ρ : Ev) : List FV → List V
  | [] => []
  | v :: vs => v.den ρ :: denVs ρ vs
end

theorem denVs_eq (ρ : Ev) : ∀ l, denVs ρ l = l.map (FV.den ρ)
  | [] => by rw [denVs]; rfl
  | t :: ts => by rw [denVs, denVs_eq ρ ts]; rfl

@[simp] theorem den_bool (ρ : Ev) (b : Bool) : FT.den ρ (.bool b) = .bool b := by rw [FT.den]
@[simp] theorem den_int (ρ : Ev) (k : IntKind) (e : E) : FT.den ρ (.int k e) = .int k (e.den ρ) := by rw [FT.den]
@[simp] theorem den_str (ρ : Ev) (s : ByteArray) : FT.den ρ (.str s) = .str s := by rw [FT.den]
@[simp] theorem den_nilp (ρ : Ev) : FT.den ρ .nilp = .nilp := by rw [FT.den]
@[simp] theorem den_nils (ρ : Ev) : FT.den ρ .nils = .nils := by rw [FT.den]
@[simp] theorem den_nilm (ρ : Ev) : FT.den ρ .nilm = .nilm := by rw [FT.den]
@[simp] theorem den_nilf (ρ : Ev) : FT.den ρ .nilf = .nilf := by rw [FT.den]
@[simp] theorem den_nili (ρ : Ev) : FT.den ρ .nili = .nili := by rw [FT.den]
@[simp] theorem den_lst (ρ : Ev) (z : Nat) (es : List (List FT)) : FT.den ρ (.lst z es) = .lst z (es.map (List.map (FT.den ρ))) := by rw [FT.den, denRows_eq]
@[simp] theorem den_imap (ρ : Ev) (es : List ((Bool × List FT) × (Bool × List FT))) : FT.den ρ (.imap es) = .imap (es.map fun e => (denKey ρ e.1, denKey ρ e.2)) := by rw [FT.den, denEnts_eq]
@[simp] theorem den_rawT (ρ : Ev) (t : T) : FT.den ρ (.raw t) = t := by rw [FT.den]
@[simp] theorem den_undef (ρ : Ev) : FV.den ρ .undef = .undef := by rw [FV.den]
@[simp] theorem den_d (ρ : Ev) (t : FT) : FV.den ρ (.d t) = .d (t.den ρ) := by rw [FV.den]
@[simp] theorem den_ptr (ρ : Ev) (b i j : Nat) : FV.den ρ (.ptr b i j) = .ptr b i j := by rw [FV.den]
@[simp] theorem den_iptr (ρ : Ev) (cs : List FT) (j : Nat) : FV.den ρ (.iptr cs j) = .iptr (cs.map (FT.den ρ)) j := by rw [FV.den]
@[simp] theorem den_sl (ρ : Ev) (b o l z : Nat) : FV.den ρ (.sl b o l z) = .sl b o l z := by rw [FV.den]
@[simp] theorem den_map (ρ : Ev) (b : Nat) : FV.den ρ (.map b) = .map b := by rw [FV.den]
@[simp] theorem den_fn (ρ : Ev) (f : Nat) (caps : List FV) : FV.den ρ (.fn f caps) = .fn f (caps.map (FV.den ρ)) := by rw [FV.den, denVs_eq]
@[simp] theorem den_agg (ρ : Ev) (cs : List FV) : FV.den ρ (.agg cs) = .agg (cs.map (FV.den ρ)) := by rw [FV.den, denVs_eq]
@[simp] theorem den_tup (ρ : Ev) (cs : List FV) : FV.den ρ (.tup cs) = .tup (cs.map (FV.den ρ)) := by rw [FV.den, denVs_eq]
@[simp] theorem den_emp (ρ : Ev) : FV.den ρ .emp = .emp := by rw [FV.den]
@[simp] theorem den_opq (ρ : Ev) : FV.den ρ .opq = .opq := by rw [FV.den]
@[simp] theorem den_it (ρ : Ev) (b : Nat) (mb : Option Nat) : FV.den ρ (.it b mb) = .it b mb := by rw [FV.den]
@[simp] theorem den_yield (ρ : Ev) (b : Nat) : FV.den ρ (.yield b) = .yield b := by rw [FV.den]
@[simp] theorem den_raw (ρ : Ev) (v : V) : FV.den ρ (.raw v) = v := by rw [FV.den]
@[simp] theorem den_lit (ρ : Ev) (n : Int) : E.den ρ (.lit n) = n := rfl

/-- The slots, as a list. -/
def denTm (ρ : Ev) (sz : Nat) (tm : Tr FV) : List V := (List.range sz).map fun i => ((tm.get i).getD .undef).den ρ

def FBlk.den (ρ : Ev) : FBlk → Blk
  | .row es => .row (es.map (List.map (FV.den ρ)))
  | .map kvs => .map (kvs.map fun e => (denKey ρ e.1, e.2.den ρ))
  | .loop st tm sz ps asg bd => .loop st (denTm ρ sz tm) ps asg bd
  | .iter mb since seen => .iter mb since seen

@[simp] theorem den_iter (ρ : Ev) (mb : Option Nat) (since : Nat) (seen : Bool) : FBlk.den ρ (.iter mb since seen) = .iter mb since seen := rfl
@[simp] theorem den_loop (ρ : Ev) (st : LSt) (tm : Tr FV) (sz : Nat) (ps : List Nat) (asg bd : DCode) : FBlk.den ρ (.loop st tm sz ps asg bd) = .loop st (denTm ρ sz tm) ps asg bd := rfl
@[simp] theorem den_row (ρ : Ev) (es : List (List FV)) : FBlk.den ρ (.row es) = .row (es.map (List.map (FV.den ρ))) := rfl
@[simp] theorem den_mapB (ρ : Ev) (kvs : List ((Bool × List FT) × FV)) : FBlk.den ρ (.map kvs) = .map (kvs.map fun e => (denKey ρ e.1, e.2.den ρ)) := rfl

def denH (ρ : Ev) (h : FHeap) : Heap := fun b => (h.get b).map (FBlk.den ρ)

theorem denH_put (ρ : Ev) (h : FHeap) (b : Nat) (x : Option FBlk) : denH ρ (h.put b x) = (denH ρ h).put b (x.map (FBlk.den ρ)) := by
  funext k
  simp only [denH, Heap.put, Tr.get_put]
  split <;> rfl

theorem denH_nil (ρ : Ev) : denH ρ .nil = Heap.none := by
  funext b
  show ((Tr.nil : FHeap).get b).map (FBlk.den ρ) = none
  rw [Tr.get_nil]; rfl

/-! ### Constants -/

def liftT : T → FT
  | .bool b => .bool b
  | .int k n => .int k (.lit n)
  | .str s => .str s
  | .nilp => .nilp
  | .nils => .nils
  | .nilm => .nilm
  | .nilf => .nilf
  | .nili => .nili
  | t => .raw t

@[simp] theorem den_liftT (ρ : Ev) (t : T) : (liftT t).den ρ = t := by cases t <;> simp [liftT]

def lift0 : V → FV
  | .undef => .undef
  | .d t => .d (liftT t)
  | .ptr b i j => .ptr b i j
  | .iptr cs j => .iptr (cs.map .raw) j
  | .sl b o l z => .sl b o l z
  | .map b => .map b
  | .fn f [] => .fn f []
  | .yield b => .yield b
  | .it b mb => .it b mb
  | .emp => .emp
  | .opq => .opq
  | v => .raw v

@[simp] theorem den_lift0 (ρ : Ev) (v : V) : (lift0 v).den ρ = v := by
  cases v with
  | fn f caps => cases caps <;> simp [lift0]
  | iptr cs j =>
    simp only [lift0, den_iptr, List.map_map]
    rw [show (FT.den ρ ∘ FT.raw) = id from funext fun t => by simp]
    simp
  | _ => simp [lift0]

def liftV : V → FV
  | .agg cs => .agg (cs.map lift0)
  | v => lift0 v

theorem map_lift0 (ρ : Ev) (vs : List V) : (vs.map lift0).map (FV.den ρ) = vs := by
  rw [List.map_map, show (FV.den ρ ∘ lift0) = id from funext fun t => by simp]
  simp

@[simp] theorem den_liftV (ρ : Ev) (v : V) : (liftV v).den ρ = v := by
  cases v with
  | agg cs =>
    simp only [liftV, den_agg]
    rw [map_lift0]
  | _ => simp [liftV]

def FV.cells : FV → List FV
  | .agg cs => cs
  | .raw v => v.cells.map .raw
  | v => [v]

@[simp] theorem den_cells (ρ : Ev) (v : FV) : v.cells.map (FV.den ρ) = (v.den ρ).cells := by
  cases v with
  | raw v =>
    simp only [FV.cells, den_raw, List.map_map]
    rw [show (FV.den ρ ∘ FV.raw) = id from funext fun t => by simp]
    simp
  | _ => simp [FV.cells, V.cells]

theorem cells_length (ρ : Ev) (v : FV) : (v.den ρ).cells.length = v.cells.length := by rw [← den_cells, List.length_map]

def FV.one : FV → Bool
  | .undef => false
  | .agg _ => false
  | .tup _ => false
  | .raw v => v.one
  | _ => true

@[simp] theorem den_one (ρ : Ev) (v : FV) : (v.den ρ).one = v.one := by cases v <;> simp [FV.one, V.one]

theorem cells_one (ρ : Ev) (v : FV) : (v.den ρ).cells.all V.one = v.cells.all FV.one := by
  rw [← den_cells, List.all_map]
  congr 1
  funext x
  simp

def FV.isAgg : FV → Bool
  | .agg _ => true
  | .raw v => v.isAgg
  | _ => false

@[simp] theorem den_isAgg (ρ : Ev) (v : FV) : (v.den ρ).isAgg = v.isAgg := by cases v <;> simp [FV.isAgg, V.isAgg]

def FV.key : FV → List Nat
  | .it b none => [b]
  | .it b (some mb) => [b, mb]
  | .ptr b _ _ => [b]
  | .sl b _ _ _ => [b]
  | .map b => [b]
  | .raw v => v.key
  | _ => []

@[simp] theorem den_key (ρ : Ev) (v : FV) : (v.den ρ).key = v.key := by
  cases v with
  | it b mb => cases mb <;> simp [FV.key, V.key]
  | _ => simp [FV.key, V.key]

def FV.data? : FV → Option FT
  | .d t => some t
  | _ => none

theorem data?_ok {ρ : Ev} {v : FV} {t : FT} (h : v.data? = some t) : (v.den ρ).data? = some (t.den ρ) := by
  cases v <;> simp [FV.data?] at h <;> subst h <;> simp [V.data?]

def dataCellsF : List FV → Option (List FT)
  | [] => some []
  | v :: vs =>
    match v.data? with
    | some t =>
      match dataCellsF vs with
      | some ts => some (t :: ts)
      | none => none
    | none => none

theorem dataCells_ok {ρ : Ev} : ∀ {vs : List FV} {ts : List FT}, dataCellsF vs = some ts → dataCells (vs.map (FV.den ρ)) = some (ts.map (FT.den ρ))
  | [], ts, h => by cases h; rfl
  | v :: vs, ts, h => by
    unfold dataCellsF at h
    split at h
    · rename_i t ht
      split at h
      · rename_i us hus
        cases h
        simp only [List.map_cons, dataCells, data?_ok ht, dataCells_ok hus]
      · cases h
    · cases h

end Go.Df
