/- The quick F machine: each operation is looked up once, where it goes to is a path; it runs to what the fast F machine runs to. No condition. -/
import Derived.Test.YtjnllnigogpagadDfM
namespace Go.Df
open Go.Dv
set_option linter.unusedVariables false      -- of eight fields one is asked for

noncomputable section

/-! ### Ways in tries -/

def dq (n : Nat) : Dg := Nat.rec (motive := fun _ => Dg) .d0 (fun n _ => Nat.rec (motive := fun _ => Dg) .d1 (fun n _ => Nat.rec (motive := fun _ => Dg) .d2 (fun n _ => Nat.rec (motive := fun _ => Dg) .d3 (fun n _ => Nat.rec (motive := fun _ => Dg) .d4 (fun n _ => Nat.rec (motive := fun _ => Dg) .d5 (fun n _ => Nat.rec (motive := fun _ => Dg) .d6 (fun n _ => .d7) n) n) n) n) n) n) n
theorem dq_eq (n : Nat) : dq n = dg n := by
  match n with
  | 0 => rfl
  | 1 => rfl
  | 2 => rfl
  | 3 => rfl
  | 4 => rfl
  | 5 => rfl
  | 6 => rfl
  | n + 7 => rfl
def pq (k : Nat) : Pa :=
  Bool.rec (motive := fun _ => Pa) (Bool.rec (motive := fun _ => Pa) (Bool.rec (motive := fun _ => Pa) (.r k)
    (.c (dq (Nat.div k 32768)) (dq (Nat.mod (Nat.div k 4096) 8)) (dq (Nat.mod (Nat.div k 512) 8)) (dq (Nat.mod (Nat.div k 64) 8)) (dq (Nat.mod (Nat.div k 8) 8)) (dq (Nat.mod k 8))) (Nat.ble (Nat.succ k) 262144))
    (.b (dq (Nat.div (Nat.sub k 64) 64)) (dq (Nat.mod (Nat.div (Nat.sub k 64) 8) 8)) (dq (Nat.mod (Nat.sub k 64) 8))) (Nat.ble (Nat.succ k) 576))
    (.a (dq (Nat.div k 8)) (dq (Nat.mod k 8))) (Nat.ble (Nat.succ k) 64)
theorem pq_eq (k : Nat) : pq k = pa k := by
  simp only [pq, pa, dq_eq]
  cases Nat.ble (Nat.succ k) 64 <;> cases Nat.ble (Nat.succ k) 576 <;> cases Nat.ble (Nat.succ k) 262144 <;> rfl

def vg0 : Dg → N8 (Option FV) → (Option FV) := @Dg.rec (fun _ => N8 (Option FV) → (Option FV)) (@N8.c0 (Option FV)) (@N8.c1 (Option FV)) (@N8.c2 (Option FV)) (@N8.c3 (Option FV)) (@N8.c4 (Option FV)) (@N8.c5 (Option FV)) (@N8.c6 (Option FV)) (@N8.c7 (Option FV))
def vs0 : Dg → Option FV → N8 (Option FV) → N8 (Option FV) := @Dg.rec (fun _ => Option FV → N8 (Option FV) → N8 (Option FV)) (fun x t => @N8.rec (Option FV) (fun _ => Option FV → N8 (Option FV)) (fun c0 c1 c2 c3 c4 c5 c6 c7 x => ⟨x, c1, c2, c3, c4, c5, c6, c7⟩) t x) (fun x t => @N8.rec (Option FV) (fun _ => Option FV → N8 (Option FV)) (fun c0 c1 c2 c3 c4 c5 c6 c7 x => ⟨c0, x, c2, c3, c4, c5, c6, c7⟩) t x) (fun x t => @N8.rec (Option FV) (fun _ => Option FV → N8 (Option FV)) (fun c0 c1 c2 c3 c4 c5 c6 c7 x => ⟨c0, c1, x, c3, c4, c5, c6, c7⟩) t x) (fun x t => @N8.rec (Option FV) (fun _ => Option FV → N8 (Option FV)) (fun c0 c1 c2 c3 c4 c5 c6 c7 x => ⟨c0, c1, c2, x, c4, c5, c6, c7⟩) t x) (fun x t => @N8.rec (Option FV) (fun _ => Option FV → N8 (Option FV)) (fun c0 c1 c2 c3 c4 c5 c6 c7 x => ⟨c0, c1, c2, c3, x, c5, c6, c7⟩) t x) (fun x t => @N8.rec (Option FV) (fun _ => Option FV → N8 (Option FV)) (fun c0 c1 c2 c3 c4 c5 c6 c7 x => ⟨c0, c1, c2, c3, c4, x, c6, c7⟩) t x) (fun x t => @N8.rec (Option FV) (fun _ => Option FV → N8 (Option FV)) (fun c0 c1 c2 c3 c4 c5 c6 c7 x => ⟨c0, c1, c2, c3, c4, c5, x, c7⟩) t x) (fun x t => @N8.rec (Option FV) (fun _ => Option FV → N8 (Option FV)) (fun c0 c1 c2 c3 c4 c5 c6 c7 x => ⟨c0, c1, c2, c3, c4, c5, c6, x⟩) t x)
theorem vg0_eq (d : Dg) (t : N8 (Option FV)) : vg0 d t = t.get d := by cases d <;> rfl
theorem vs0_eq (d : Dg) (x : Option FV) (t : N8 (Option FV)) : vs0 d x t = t.upd (fun _ => x) d := by cases d <;> rfl
def vg1 : Dg → N8 (L1 FV) → (L1 FV) := @Dg.rec (fun _ => N8 (L1 FV) → (L1 FV)) (@N8.c0 (L1 FV)) (@N8.c1 (L1 FV)) (@N8.c2 (L1 FV)) (@N8.c3 (L1 FV)) (@N8.c4 (L1 FV)) (@N8.c5 (L1 FV)) (@N8.c6 (L1 FV)) (@N8.c7 (L1 FV))
def vu1 : Dg → ((L1 FV) → (L1 FV)) → N8 (L1 FV) → N8 (L1 FV) := @Dg.rec (fun _ => ((L1 FV) → (L1 FV)) → N8 (L1 FV) → N8 (L1 FV)) (fun f t => @N8.rec (L1 FV) (fun _ => ((L1 FV) → (L1 FV)) → N8 (L1 FV)) (fun c0 c1 c2 c3 c4 c5 c6 c7 f => ⟨f c0, c1, c2, c3, c4, c5, c6, c7⟩) t f) (fun f t => @N8.rec (L1 FV) (fun _ => ((L1 FV) → (L1 FV)) → N8 (L1 FV)) (fun c0 c1 c2 c3 c4 c5 c6 c7 f => ⟨c0, f c1, c2, c3, c4, c5, c6, c7⟩) t f) (fun f t => @N8.rec (L1 FV) (fun _ => ((L1 FV) → (L1 FV)) → N8 (L1 FV)) (fun c0 c1 c2 c3 c4 c5 c6 c7 f => ⟨c0, c1, f c2, c3, c4, c5, c6, c7⟩) t f) (fun f t => @N8.rec (L1 FV) (fun _ => ((L1 FV) → (L1 FV)) → N8 (L1 FV)) (fun c0 c1 c2 c3 c4 c5 c6 c7 f => ⟨c0, c1, c2, f c3, c4, c5, c6, c7⟩) t f) (fun f t => @N8.rec (L1 FV) (fun _ => ((L1 FV) → (L1 FV)) → N8 (L1 FV)) (fun c0 c1 c2 c3 c4 c5 c6 c7 f => ⟨c0, c1, c2, c3, f c4, c5, c6, c7⟩) t f) (fun f t => @N8.rec (L1 FV) (fun _ => ((L1 FV) → (L1 FV)) → N8 (L1 FV)) (fun c0 c1 c2 c3 c4 c5 c6 c7 f => ⟨c0, c1, c2, c3, c4, f c5, c6, c7⟩) t f) (fun f t => @N8.rec (L1 FV) (fun _ => ((L1 FV) → (L1 FV)) → N8 (L1 FV)) (fun c0 c1 c2 c3 c4 c5 c6 c7 f => ⟨c0, c1, c2, c3, c4, c5, f c6, c7⟩) t f) (fun f t => @N8.rec (L1 FV) (fun _ => ((L1 FV) → (L1 FV)) → N8 (L1 FV)) (fun c0 c1 c2 c3 c4 c5 c6 c7 f => ⟨c0, c1, c2, c3, c4, c5, c6, f c7⟩) t f)
theorem vg1_eq (d : Dg) (t : N8 (L1 FV)) : vg1 d t = t.get d := by cases d <;> rfl
theorem vu1_eq (d : Dg) (f : (L1 FV) → (L1 FV)) (t : N8 (L1 FV)) : vu1 d f t = t.upd f d := by cases d <;> rfl
def vg2 : Dg → N8 (L2 FV) → (L2 FV) := @Dg.rec (fun _ => N8 (L2 FV) → (L2 FV)) (@N8.c0 (L2 FV)) (@N8.c1 (L2 FV)) (@N8.c2 (L2 FV)) (@N8.c3 (L2 FV)) (@N8.c4 (L2 FV)) (@N8.c5 (L2 FV)) (@N8.c6 (L2 FV)) (@N8.c7 (L2 FV))
def vu2 : Dg → ((L2 FV) → (L2 FV)) → N8 (L2 FV) → N8 (L2 FV) := @Dg.rec (fun _ => ((L2 FV) → (L2 FV)) → N8 (L2 FV) → N8 (L2 FV)) (fun f t => @N8.rec (L2 FV) (fun _ => ((L2 FV) → (L2 FV)) → N8 (L2 FV)) (fun c0 c1 c2 c3 c4 c5 c6 c7 f => ⟨f c0, c1, c2, c3, c4, c5, c6, c7⟩) t f) (fun f t => @N8.rec (L2 FV) (fun _ => ((L2 FV) → (L2 FV)) → N8 (L2 FV)) (fun c0 c1 c2 c3 c4 c5 c6 c7 f => ⟨c0, f c1, c2, c3, c4, c5, c6, c7⟩) t f) (fun f t => @N8.rec (L2 FV) (fun _ => ((L2 FV) → (L2 FV)) → N8 (L2 FV)) (fun c0 c1 c2 c3 c4 c5 c6 c7 f => ⟨c0, c1, f c2, c3, c4, c5, c6, c7⟩) t f) (fun f t => @N8.rec (L2 FV) (fun _ => ((L2 FV) → (L2 FV)) → N8 (L2 FV)) (fun c0 c1 c2 c3 c4 c5 c6 c7 f => ⟨c0, c1, c2, f c3, c4, c5, c6, c7⟩) t f) (fun f t => @N8.rec (L2 FV) (fun _ => ((L2 FV) → (L2 FV)) → N8 (L2 FV)) (fun c0 c1 c2 c3 c4 c5 c6 c7 f => ⟨c0, c1, c2, c3, f c4, c5, c6, c7⟩) t f) (fun f t => @N8.rec (L2 FV) (fun _ => ((L2 FV) → (L2 FV)) → N8 (L2 FV)) (fun c0 c1 c2 c3 c4 c5 c6 c7 f => ⟨c0, c1, c2, c3, c4, f c5, c6, c7⟩) t f) (fun f t => @N8.rec (L2 FV) (fun _ => ((L2 FV) → (L2 FV)) → N8 (L2 FV)) (fun c0 c1 c2 c3 c4 c5 c6 c7 f => ⟨c0, c1, c2, c3, c4, c5, f c6, c7⟩) t f) (fun f t => @N8.rec (L2 FV) (fun _ => ((L2 FV) → (L2 FV)) → N8 (L2 FV)) (fun c0 c1 c2 c3 c4 c5 c6 c7 f => ⟨c0, c1, c2, c3, c4, c5, c6, f c7⟩) t f)
theorem vg2_eq (d : Dg) (t : N8 (L2 FV)) : vg2 d t = t.get d := by cases d <;> rfl
theorem vu2_eq (d : Dg) (f : (L2 FV) → (L2 FV)) (t : N8 (L2 FV)) : vu2 d f t = t.upd f d := by cases d <;> rfl
def vg3 : Dg → N8 (L3 FV) → (L3 FV) := @Dg.rec (fun _ => N8 (L3 FV) → (L3 FV)) (@N8.c0 (L3 FV)) (@N8.c1 (L3 FV)) (@N8.c2 (L3 FV)) (@N8.c3 (L3 FV)) (@N8.c4 (L3 FV)) (@N8.c5 (L3 FV)) (@N8.c6 (L3 FV)) (@N8.c7 (L3 FV))
def vu3 : Dg → ((L3 FV) → (L3 FV)) → N8 (L3 FV) → N8 (L3 FV) := @Dg.rec (fun _ => ((L3 FV) → (L3 FV)) → N8 (L3 FV) → N8 (L3 FV)) (fun f t => @N8.rec (L3 FV) (fun _ => ((L3 FV) → (L3 FV)) → N8 (L3 FV)) (fun c0 c1 c2 c3 c4 c5 c6 c7 f => ⟨f c0, c1, c2, c3, c4, c5, c6, c7⟩) t f) (fun f t => @N8.rec (L3 FV) (fun _ => ((L3 FV) → (L3 FV)) → N8 (L3 FV)) (fun c0 c1 c2 c3 c4 c5 c6 c7 f => ⟨c0, f c1, c2, c3, c4, c5, c6, c7⟩) t f) (fun f t => @N8.rec (L3 FV) (fun _ => ((L3 FV) → (L3 FV)) → N8 (L3 FV)) (fun c0 c1 c2 c3 c4 c5 c6 c7 f => ⟨c0, c1, f c2, c3, c4, c5, c6, c7⟩) t f) (fun f t => @N8.rec (L3 FV) (fun _ => ((L3 FV) → (L3 FV)) → N8 (L3 FV)) (fun c0 c1 c2 c3 c4 c5 c6 c7 f => ⟨c0, c1, c2, f c3, c4, c5, c6, c7⟩) t f) (fun f t => @N8.rec (L3 FV) (fun _ => ((L3 FV) → (L3 FV)) → N8 (L3 FV)) (fun c0 c1 c2 c3 c4 c5 c6 c7 f => ⟨c0, c1, c2, c3, f c4, c5, c6, c7⟩) t f) (fun f t => @N8.rec (L3 FV) (fun _ => ((L3 FV) → (L3 FV)) → N8 (L3 FV)) (fun c0 c1 c2 c3 c4 c5 c6 c7 f => ⟨c0, c1, c2, c3, c4, f c5, c6, c7⟩) t f) (fun f t => @N8.rec (L3 FV) (fun _ => ((L3 FV) → (L3 FV)) → N8 (L3 FV)) (fun c0 c1 c2 c3 c4 c5 c6 c7 f => ⟨c0, c1, c2, c3, c4, c5, f c6, c7⟩) t f) (fun f t => @N8.rec (L3 FV) (fun _ => ((L3 FV) → (L3 FV)) → N8 (L3 FV)) (fun c0 c1 c2 c3 c4 c5 c6 c7 f => ⟨c0, c1, c2, c3, c4, c5, c6, f c7⟩) t f)
theorem vg3_eq (d : Dg) (t : N8 (L3 FV)) : vg3 d t = t.get d := by cases d <;> rfl
theorem vu3_eq (d : Dg) (f : (L3 FV) → (L3 FV)) (t : N8 (L3 FV)) : vu3 d f t = t.upd f d := by cases d <;> rfl
def vg4 : Dg → N8 (L4 FV) → (L4 FV) := @Dg.rec (fun _ => N8 (L4 FV) → (L4 FV)) (@N8.c0 (L4 FV)) (@N8.c1 (L4 FV)) (@N8.c2 (L4 FV)) (@N8.c3 (L4 FV)) (@N8.c4 (L4 FV)) (@N8.c5 (L4 FV)) (@N8.c6 (L4 FV)) (@N8.c7 (L4 FV))
def vu4 : Dg → ((L4 FV) → (L4 FV)) → N8 (L4 FV) → N8 (L4 FV) := @Dg.rec (fun _ => ((L4 FV) → (L4 FV)) → N8 (L4 FV) → N8 (L4 FV)) (fun f t => @N8.rec (L4 FV) (fun _ => ((L4 FV) → (L4 FV)) → N8 (L4 FV)) (fun c0 c1 c2 c3 c4 c5 c6 c7 f => ⟨f c0, c1, c2, c3, c4, c5, c6, c7⟩) t f) (fun f t => @N8.rec (L4 FV) (fun _ => ((L4 FV) → (L4 FV)) → N8 (L4 FV)) (fun c0 c1 c2 c3 c4 c5 c6 c7 f => ⟨c0, f c1, c2, c3, c4, c5, c6, c7⟩) t f) (fun f t => @N8.rec (L4 FV) (fun _ => ((L4 FV) → (L4 FV)) → N8 (L4 FV)) (fun c0 c1 c2 c3 c4 c5 c6 c7 f => ⟨c0, c1, f c2, c3, c4, c5, c6, c7⟩) t f) (fun f t => @N8.rec (L4 FV) (fun _ => ((L4 FV) → (L4 FV)) → N8 (L4 FV)) (fun c0 c1 c2 c3 c4 c5 c6 c7 f => ⟨c0, c1, c2, f c3, c4, c5, c6, c7⟩) t f) (fun f t => @N8.rec (L4 FV) (fun _ => ((L4 FV) → (L4 FV)) → N8 (L4 FV)) (fun c0 c1 c2 c3 c4 c5 c6 c7 f => ⟨c0, c1, c2, c3, f c4, c5, c6, c7⟩) t f) (fun f t => @N8.rec (L4 FV) (fun _ => ((L4 FV) → (L4 FV)) → N8 (L4 FV)) (fun c0 c1 c2 c3 c4 c5 c6 c7 f => ⟨c0, c1, c2, c3, c4, f c5, c6, c7⟩) t f) (fun f t => @N8.rec (L4 FV) (fun _ => ((L4 FV) → (L4 FV)) → N8 (L4 FV)) (fun c0 c1 c2 c3 c4 c5 c6 c7 f => ⟨c0, c1, c2, c3, c4, c5, f c6, c7⟩) t f) (fun f t => @N8.rec (L4 FV) (fun _ => ((L4 FV) → (L4 FV)) → N8 (L4 FV)) (fun c0 c1 c2 c3 c4 c5 c6 c7 f => ⟨c0, c1, c2, c3, c4, c5, c6, f c7⟩) t f)
theorem vg4_eq (d : Dg) (t : N8 (L4 FV)) : vg4 d t = t.get d := by cases d <;> rfl
theorem vu4_eq (d : Dg) (f : (L4 FV) → (L4 FV)) (t : N8 (L4 FV)) : vu4 d f t = t.upd f d := by cases d <;> rfl
def vg5 : Dg → N8 (L5 FV) → (L5 FV) := @Dg.rec (fun _ => N8 (L5 FV) → (L5 FV)) (@N8.c0 (L5 FV)) (@N8.c1 (L5 FV)) (@N8.c2 (L5 FV)) (@N8.c3 (L5 FV)) (@N8.c4 (L5 FV)) (@N8.c5 (L5 FV)) (@N8.c6 (L5 FV)) (@N8.c7 (L5 FV))
def vu5 : Dg → ((L5 FV) → (L5 FV)) → N8 (L5 FV) → N8 (L5 FV) := @Dg.rec (fun _ => ((L5 FV) → (L5 FV)) → N8 (L5 FV) → N8 (L5 FV)) (fun f t => @N8.rec (L5 FV) (fun _ => ((L5 FV) → (L5 FV)) → N8 (L5 FV)) (fun c0 c1 c2 c3 c4 c5 c6 c7 f => ⟨f c0, c1, c2, c3, c4, c5, c6, c7⟩) t f) (fun f t => @N8.rec (L5 FV) (fun _ => ((L5 FV) → (L5 FV)) → N8 (L5 FV)) (fun c0 c1 c2 c3 c4 c5 c6 c7 f => ⟨c0, f c1, c2, c3, c4, c5, c6, c7⟩) t f) (fun f t => @N8.rec (L5 FV) (fun _ => ((L5 FV) → (L5 FV)) → N8 (L5 FV)) (fun c0 c1 c2 c3 c4 c5 c6 c7 f => ⟨c0, c1, f c2, c3, c4, c5, c6, c7⟩) t f) (fun f t => @N8.rec (L5 FV) (fun _ => ((L5 FV) → (L5 FV)) → N8 (L5 FV)) (fun c0 c1 c2 c3 c4 c5 c6 c7 f => ⟨c0, c1, c2, f c3, c4, c5, c6, c7⟩) t f) (fun f t => @N8.rec (L5 FV) (fun _ => ((L5 FV) → (L5 FV)) → N8 (L5 FV)) (fun c0 c1 c2 c3 c4 c5 c6 c7 f => ⟨c0, c1, c2, c3, f c4, c5, c6, c7⟩) t f) (fun f t => @N8.rec (L5 FV) (fun _ => ((L5 FV) → (L5 FV)) → N8 (L5 FV)) (fun c0 c1 c2 c3 c4 c5 c6 c7 f => ⟨c0, c1, c2, c3, c4, f c5, c6, c7⟩) t f) (fun f t => @N8.rec (L5 FV) (fun _ => ((L5 FV) → (L5 FV)) → N8 (L5 FV)) (fun c0 c1 c2 c3 c4 c5 c6 c7 f => ⟨c0, c1, c2, c3, c4, c5, f c6, c7⟩) t f) (fun f t => @N8.rec (L5 FV) (fun _ => ((L5 FV) → (L5 FV)) → N8 (L5 FV)) (fun c0 c1 c2 c3 c4 c5 c6 c7 f => ⟨c0, c1, c2, c3, c4, c5, c6, f c7⟩) t f)
theorem vg5_eq (d : Dg) (t : N8 (L5 FV)) : vg5 d t = t.get d := by cases d <;> rfl
theorem vu5_eq (d : Dg) (f : (L5 FV) → (L5 FV)) (t : N8 (L5 FV)) : vu5 d f t = t.upd f d := by cases d <;> rfl

def vB (t : Option (L3 FV)) (i j k : Dg) : Option FV := @Option.rec (L3 FV) (fun _ => Dg → Dg → Dg → Option FV) (fun _ _ _ => none) (fun t i j k => vg0 k (vg1 j (vg2 i t))) t i j k
def vC (t : Option (L6 FV)) (i j k l m n : Dg) : Option FV := @Option.rec (L6 FV) (fun _ => Dg → Dg → Dg → Dg → Dg → Dg → Option FV) (fun _ _ _ _ _ _ => none) (fun t i j k l m n => vg0 n (vg1 m (vg2 l (vg3 k (vg4 j (vg5 i t)))))) t i j k l m n
def vGet (p : Pa) : Tr FV → Option FV :=
  @Pa.rec (fun _ => Tr FV → Option FV) (fun i j t => vg0 j (vg1 i t.a)) (fun i j k t => vB t.b i j k) (fun i j k l m n t => vC t.c i j k l m n) (fun k t => t.r.get k) p

theorem vGet_eq (t : Tr FV) (k : Nat) : vGet (pq k) t = kTget t k := by
  rw [pq_eq]
  show vGet (pa k) t = t.getP (pa k)
  cases pa k with
  | a i j => show vg0 j (vg1 i t.a) = _; rw [vg1_eq, vg0_eq]; rfl
  | b i j l =>
    obtain ⟨a', b', c', r'⟩ := t
    cases b' with
    | none => rfl
    | some t => show vg0 l (vg1 j (vg2 i t)) = _; rw [vg2_eq, vg1_eq, vg0_eq]; rfl
  | c i j l m n o =>
    obtain ⟨a', b', c', r'⟩ := t
    cases c' with
    | none => rfl
    | some t => show vg0 o (vg1 n (vg2 m (vg3 l (vg4 j (vg5 i t))))) = _; rw [vg5_eq, vg4_eq, vg3_eq, vg2_eq, vg1_eq, vg0_eq]; rfl
  | r l => rfl

def vD3 (t : Option (L3 FV)) : L3 FV := @Option.rec (L3 FV) (fun _ => L3 FV) (none3 FV) (fun t => t) t
def vD6 (t : Option (L6 FV)) : L6 FV := @Option.rec (L6 FV) (fun _ => L6 FV) (none6 FV) (fun t => t) t
def vPB (x : Option FV) (i j k : Dg) (t : L3 FV) : L3 FV := vu2 i (vu1 j (vs0 k x)) t
def vPC (x : Option FV) (i j k l m n : Dg) (t : L6 FV) : L6 FV := vu5 i (vu4 j (vu3 k (vu2 l (vu1 m (vs0 n x))))) t
def vPut (x : Option FV) (p : Pa) (t : Tr FV) : Tr FV :=
  @Pa.rec (fun _ => Option FV → Tr FV → Tr FV)
    (fun i j x t => @Tr.rec FV (fun _ => Dg → Dg → Option FV → Tr FV) (fun a b c r i j x => ⟨vu1 i (vs0 j x) a, b, c, r⟩) t i j x)
    (fun i j k x t => @Tr.rec FV (fun _ => Dg → Dg → Dg → Option FV → Tr FV) (fun a b c r i j k x => ⟨a, some (vPB x i j k (vD3 b)), c, r⟩) t i j k x)
    (fun i j k l m n x t => @Tr.rec FV (fun _ => Dg → Dg → Dg → Dg → Dg → Dg → Option FV → Tr FV) (fun a b c r i j k l m n x => ⟨a, b, some (vPC x i j k l m n (vD6 c)), r⟩) t i j k l m n x)
    (fun k x t => ⟨t.a, t.b, t.c, t.r.put k x⟩) p x t

theorem vPut_eq (x : Option FV) (t : Tr FV) (k : Nat) : vPut x (pq k) t = kTput t k x := by
  rw [pq_eq]
  show vPut x (pa k) t = t.putP x (pa k)
  obtain ⟨a, b, c, r⟩ := t
  cases pa k with
  | a i j =>
    show Tr.mk (vu1 i (vs0 j x) a) b c r = Tr.mk (a.upd (fun t => t.upd (fun _ => x) j) i) b c r
    rw [vu1_eq, show vs0 j x = fun t => t.upd (fun _ => x) j from funext fun t => vs0_eq j x t]
  | b i j l =>
    show Tr.mk a (some (vu2 i (vu1 j (vs0 l x)) (vD3 b))) c r = Tr.mk a (some ((b.getD (none3 FV)).upd (fun t => t.upd (fun t => t.upd (fun _ => x) l) j) i)) c r
    rw [vu2_eq, show vs0 l x = fun t => t.upd (fun _ => x) l from funext fun t => vs0_eq l x t, show vu1 j (fun t => t.upd (fun _ => x) l) = fun t => t.upd (fun t => t.upd (fun _ => x) l) j from funext fun t => vu1_eq j _ t]
    cases b <;> rfl
  | c i j l m n o =>
    show Tr.mk a b (some (vu5 i (vu4 j (vu3 l (vu2 m (vu1 n (vs0 o x))))) (vD6 c))) r = Tr.mk a b (some ((c.getD (none6 FV)).upd (fun t => t.upd (fun t => t.upd (fun t => t.upd (fun t => t.upd (fun t => t.upd (fun _ => x) o) n) m) l) j) i)) r
    rw [vu5_eq, show vs0 o x = fun t => t.upd (fun _ => x) o from funext fun t => vs0_eq o x t, show ∀ f, vu1 n f = fun t => t.upd f n from fun f => funext fun t => vu1_eq n f t, show ∀ f, vu2 m f = fun t => t.upd f m from fun f => funext fun t => vu2_eq m f t,
      show ∀ f, vu3 l f = fun t => t.upd f l from fun f => funext fun t => vu3_eq l f t, show ∀ f, vu4 j f = fun t => t.upd f j from fun f => funext fun t => vu4_eq j f t]
    cases c <;> rfl
  | r l => rfl

def hg0 : Dg → N8 (Option FBlk) → (Option FBlk) := @Dg.rec (fun _ => N8 (Option FBlk) → (Option FBlk)) (@N8.c0 (Option FBlk)) (@N8.c1 (Option FBlk)) (@N8.c2 (Option FBlk)) (@N8.c3 (Option FBlk)) (@N8.c4 (Option FBlk)) (@N8.c5 (Option FBlk)) (@N8.c6 (Option FBlk)) (@N8.c7 (Option FBlk))
def hs0 : Dg → Option FBlk → N8 (Option FBlk) → N8 (Option FBlk) := @Dg.rec (fun _ => Option FBlk → N8 (Option FBlk) → N8 (Option FBlk)) (fun x t => @N8.rec (Option FBlk) (fun _ => Option FBlk → N8 (Option FBlk)) (fun c0 c1 c2 c3 c4 c5 c6 c7 x => ⟨x, c1, c2, c3, c4, c5, c6, c7⟩) t x) (fun x t => @N8.rec (Option FBlk) (fun _ => Option FBlk → N8 (Option FBlk)) (fun c0 c1 c2 c3 c4 c5 c6 c7 x => ⟨c0, x, c2, c3, c4, c5, c6, c7⟩) t x) (fun x t => @N8.rec (Option FBlk) (fun _ => Option FBlk → N8 (Option FBlk)) (fun c0 c1 c2 c3 c4 c5 c6 c7 x => ⟨c0, c1, x, c3, c4, c5, c6, c7⟩) t x) (fun x t => @N8.rec (Option FBlk) (fun _ => Option FBlk → N8 (Option FBlk)) (fun c0 c1 c2 c3 c4 c5 c6 c7 x => ⟨c0, c1, c2, x, c4, c5, c6, c7⟩) t x) (fun x t => @N8.rec (Option FBlk) (fun _ => Option FBlk → N8 (Option FBlk)) (fun c0 c1 c2 c3 c4 c5 c6 c7 x => ⟨c0, c1, c2, c3, x, c5, c6, c7⟩) t x) (fun x t => @N8.rec (Option FBlk) (fun _ => Option FBlk → N8 (Option FBlk)) (fun c0 c1 c2 c3 c4 c5 c6 c7 x => ⟨c0, c1, c2, c3, c4, x, c6, c7⟩) t x) (fun x t => @N8.rec (Option FBlk) (fun _ => Option FBlk → N8 (Option FBlk)) (fun c0 c1 c2 c3 c4 c5 c6 c7 x => ⟨c0, c1, c2, c3, c4, c5, x, c7⟩) t x) (fun x t => @N8.rec (Option FBlk) (fun _ => Option FBlk → N8 (Option FBlk)) (fun c0 c1 c2 c3 c4 c5 c6 c7 x => ⟨c0, c1, c2, c3, c4, c5, c6, x⟩) t x)
theorem hg0_eq (d : Dg) (t : N8 (Option FBlk)) : hg0 d t = t.get d := by cases d <;> rfl
theorem hs0_eq (d : Dg) (x : Option FBlk) (t : N8 (Option FBlk)) : hs0 d x t = t.upd (fun _ => x) d := by cases d <;> rfl
def hg1 : Dg → N8 (L1 FBlk) → (L1 FBlk) := @Dg.rec (fun _ => N8 (L1 FBlk) → (L1 FBlk)) (@N8.c0 (L1 FBlk)) (@N8.c1 (L1 FBlk)) (@N8.c2 (L1 FBlk)) (@N8.c3 (L1 FBlk)) (@N8.c4 (L1 FBlk)) (@N8.c5 (L1 FBlk)) (@N8.c6 (L1 FBlk)) (@N8.c7 (L1 FBlk))
def hu1 : Dg → ((L1 FBlk) → (L1 FBlk)) → N8 (L1 FBlk) → N8 (L1 FBlk) := @Dg.rec (fun _ => ((L1 FBlk) → (L1 FBlk)) → N8 (L1 FBlk) → N8 (L1 FBlk)) (fun f t => @N8.rec (L1 FBlk) (fun _ => ((L1 FBlk) → (L1 FBlk)) → N8 (L1 FBlk)) (fun c0 c1 c2 c3 c4 c5 c6 c7 f => ⟨f c0, c1, c2, c3, c4, c5, c6, c7⟩) t f) (fun f t => @N8.rec (L1 FBlk) (fun _ => ((L1 FBlk) → (L1 FBlk)) → N8 (L1 FBlk)) (fun c0 c1 c2 c3 c4 c5 c6 c7 f => ⟨c0, f c1, c2, c3, c4, c5, c6, c7⟩) t f) (fun f t => @N8.rec (L1 FBlk) (fun _ => ((L1 FBlk) → (L1 FBlk)) → N8 (L1 FBlk)) (fun c0 c1 c2 c3 c4 c5 c6 c7 f => ⟨c0, c1, f c2, c3, c4, c5, c6, c7⟩) t f) (fun f t => @N8.rec (L1 FBlk) (fun _ => ((L1 FBlk) → (L1 FBlk)) → N8 (L1 FBlk)) (fun c0 c1 c2 c3 c4 c5 c6 c7 f => ⟨c0, c1, c2, f c3, c4, c5, c6, c7⟩) t f) (fun f t => @N8.rec (L1 FBlk) (fun _ => ((L1 FBlk) → (L1 FBlk)) → N8 (L1 FBlk)) (fun c0 c1 c2 c3 c4 c5 c6 c7 f => ⟨c0, c1, c2, c3, f c4, c5, c6, c7⟩) t f) (fun f t => @N8.rec (L1 FBlk) (fun _ => ((L1 FBlk) → (L1 FBlk)) → N8 (L1 FBlk)) (fun c0 c1 c2 c3 c4 c5 c6 c7 f => ⟨c0, c1, c2, c3, c4, f c5, c6, c7⟩) t f) (fun f t => @N8.rec (L1 FBlk) (fun _ => ((L1 FBlk) → (L1 FBlk)) → N8 (L1 FBlk)) (fun c0 c1 c2 c3 c4 c5 c6 c7 f => ⟨c0, c1, c2, c3, c4, c5, f c6, c7⟩) t f) (fun f t => @N8.rec (L1 FBlk) (fun _ => ((L1 FBlk) → (L1 FBlk)) → N8 (L1 FBlk)) (fun c0 c1 c2 c3 c4 c5 c6 c7 f => ⟨c0, c1, c2, c3, c4, c5, c6, f c7⟩) t f)
theorem hg1_eq (d : Dg) (t : N8 (L1 FBlk)) : hg1 d t = t.get d := by cases d <;> rfl
theorem hu1_eq (d : Dg) (f : (L1 FBlk) → (L1 FBlk)) (t : N8 (L1 FBlk)) : hu1 d f t = t.upd f d := by cases d <;> rfl
def hg2 : Dg → N8 (L2 FBlk) → (L2 FBlk) := @Dg.rec (fun _ => N8 (L2 FBlk) → (L2 FBlk)) (@N8.c0 (L2 FBlk)) (@N8.c1 (L2 FBlk)) (@N8.c2 (L2 FBlk)) (@N8.c3 (L2 FBlk)) (@N8.c4 (L2 FBlk)) (@N8.c5 (L2 FBlk)) (@N8.c6 (L2 FBlk)) (@N8.c7 (L2 FBlk))
def hu2 : Dg → ((L2 FBlk) → (L2 FBlk)) → N8 (L2 FBlk) → N8 (L2 FBlk) := @Dg.rec (fun _ => ((L2 FBlk) → (L2 FBlk)) → N8 (L2 FBlk) → N8 (L2 FBlk)) (fun f t => @N8.rec (L2 FBlk) (fun _ => ((L2 FBlk) → (L2 FBlk)) → N8 (L2 FBlk)) (fun c0 c1 c2 c3 c4 c5 c6 c7 f => ⟨f c0, c1, c2, c3, c4, c5, c6, c7⟩) t f) (fun f t => @N8.rec (L2 FBlk) (fun _ => ((L2 FBlk) → (L2 FBlk)) → N8 (L2 FBlk)) (fun c0 c1 c2 c3 c4 c5 c6 c7 f => ⟨c0, f c1, c2, c3, c4, c5, c6, c7⟩) t f) (fun f t => @N8.rec (L2 FBlk) (fun _ => ((L2 FBlk) → (L2 FBlk)) → N8 (L2 FBlk)) (fun c0 c1 c2 c3 c4 c5 c6 c7 f => ⟨c0, c1, f c2, c3, c4, c5, c6, c7⟩) t f) (fun f t => @N8.rec (L2 FBlk) (fun _ => ((L2 FBlk) → (L2 FBlk)) → N8 (L2 FBlk)) (fun c0 c1 c2 c3 c4 c5 c6 c7 f => ⟨c0, c1, c2, f c3, c4, c5, c6, c7⟩) t f) (fun f t => @N8.rec (L2 FBlk) (fun _ => ((L2 FBlk) → (L2 FBlk)) → N8 (L2 FBlk)) (fun c0 c1 c2 c3 c4 c5 c6 c7 f => ⟨c0, c1, c2, c3, f c4, c5, c6, c7⟩) t f) (fun f t => @N8.rec (L2 FBlk) (fun _ => ((L2 FBlk) → (L2 FBlk)) → N8 (L2 FBlk)) (fun c0 c1 c2 c3 c4 c5 c6 c7 f => ⟨c0, c1, c2, c3, c4, f c5, c6, c7⟩) t f) (fun f t => @N8.rec (L2 FBlk) (fun _ => ((L2 FBlk) → (L2 FBlk)) → N8 (L2 FBlk)) (fun c0 c1 c2 c3 c4 c5 c6 c7 f => ⟨c0, c1, c2, c3, c4, c5, f c6, c7⟩) t f) (fun f t => @N8.rec (L2 FBlk) (fun _ => ((L2 FBlk) → (L2 FBlk)) → N8 (L2 FBlk)) (fun c0 c1 c2 c3 c4 c5 c6 c7 f => ⟨c0, c1, c2, c3, c4, c5, c6, f c7⟩) t f)
theorem hg2_eq (d : Dg) (t : N8 (L2 FBlk)) : hg2 d t = t.get d := by cases d <;> rfl
theorem hu2_eq (d : Dg) (f : (L2 FBlk) → (L2 FBlk)) (t : N8 (L2 FBlk)) : hu2 d f t = t.upd f d := by cases d <;> rfl
def hg3 : Dg → N8 (L3 FBlk) → (L3 FBlk) := @Dg.rec (fun _ => N8 (L3 FBlk) → (L3 FBlk)) (@N8.c0 (L3 FBlk)) (@N8.c1 (L3 FBlk)) (@N8.c2 (L3 FBlk)) (@N8.c3 (L3 FBlk)) (@N8.c4 (L3 FBlk)) (@N8.c5 (L3 FBlk)) (@N8.c6 (L3 FBlk)) (@N8.c7 (L3 FBlk))
def hu3 : Dg → ((L3 FBlk) → (L3 FBlk)) → N8 (L3 FBlk) → N8 (L3 FBlk) := @Dg.rec (fun _ => ((L3 FBlk) → (L3 FBlk)) → N8 (L3 FBlk) → N8 (L3 FBlk)) (fun f t => @N8.rec (L3 FBlk) (fun _ => ((L3 FBlk) → (L3 FBlk)) → N8 (L3 FBlk)) (fun c0 c1 c2 c3 c4 c5 c6 c7 f => ⟨f c0, c1, c2, c3, c4, c5, c6, c7⟩) t f) (fun f t => @N8.rec (L3 FBlk) (fun _ => ((L3 FBlk) → (L3 FBlk)) → N8 (L3 FBlk)) (fun c0 c1 c2 c3 c4 c5 c6 c7 f => ⟨c0, f c1, c2, c3, c4, c5, c6, c7⟩) t f) (fun f t => @N8.rec (L3 FBlk) (fun _ => ((L3 FBlk) → (L3 FBlk)) → N8 (L3 FBlk)) (fun c0 c1 c2 c3 c4 c5 c6 c7 f => ⟨c0, c1, f c2, c3, c4, c5, c6, c7⟩) t f) (fun f t => @N8.rec (L3 FBlk) (fun _ => ((L3 FBlk) → (L3 FBlk)) → N8 (L3 FBlk)) (fun c0 c1 c2 c3 c4 c5 c6 c7 f => ⟨c0, c1, c2, f c3, c4, c5, c6, c7⟩) t f) (fun f t => @N8.rec (L3 FBlk) (fun _ => ((L3 FBlk) → (L3 FBlk)) → N8 (L3 FBlk)) (fun c0 c1 c2 c3 c4 c5 c6 c7 f => ⟨c0, c1, c2, c3, f c4, c5, c6, c7⟩) t f) (fun f t => @N8.rec (L3 FBlk) (fun _ => ((L3 FBlk) → (L3 FBlk)) → N8 (L3 FBlk)) (fun c0 c1 c2 c3 c4 c5 c6 c7 f => ⟨c0, c1, c2, c3, c4, f c5, c6, c7⟩) t f) (fun f t => @N8.rec (L3 FBlk) (fun _ => ((L3 FBlk) → (L3 FBlk)) → N8 (L3 FBlk)) (fun c0 c1 c2 c3 c4 c5 c6 c7 f => ⟨c0, c1, c2, c3, c4, c5, f c6, c7⟩) t f) (fun f t => @N8.rec (L3 FBlk) (fun _ => ((L3 FBlk) → (L3 FBlk)) → N8 (L3 FBlk)) (fun c0 c1 c2 c3 c4 c5 c6 c7 f => ⟨c0, c1, c2, c3, c4, c5, c6, f c7⟩) t f)
theorem hg3_eq (d : Dg) (t : N8 (L3 FBlk)) : hg3 d t = t.get d := by cases d <;> rfl
theorem hu3_eq (d : Dg) (f : (L3 FBlk) → (L3 FBlk)) (t : N8 (L3 FBlk)) : hu3 d f t = t.upd f d := by cases d <;> rfl
def hg4 : Dg → N8 (L4 FBlk) → (L4 FBlk) := @Dg.rec (fun _ => N8 (L4 FBlk) → (L4 FBlk)) (@N8.c0 (L4 FBlk)) (@N8.c1 (L4 FBlk)) (@N8.c2 (L4 FBlk)) (@N8.c3 (L4 FBlk)) (@N8.c4 (L4 FBlk)) (@N8.c5 (L4 FBlk)) (@N8.c6 (L4 FBlk)) (@N8.c7 (L4 FBlk))
def hu4 : Dg → ((L4 FBlk) → (L4 FBlk)) → N8 (L4 FBlk) → N8 (L4 FBlk) := @Dg.rec (fun _ => ((L4 FBlk) → (L4 FBlk)) → N8 (L4 FBlk) → N8 (L4 FBlk)) (fun f t => @N8.rec (L4 FBlk) (fun _ => ((L4 FBlk) → (L4 FBlk)) → N8 (L4 FBlk)) (fun c0 c1 c2 c3 c4 c5 c6 c7 f => ⟨f c0, c1, c2, c3, c4, c5, c6, c7⟩) t f) (fun f t => @N8.rec (L4 FBlk) (fun _ => ((L4 FBlk) → (L4 FBlk)) → N8 (L4 FBlk)) (fun c0 c1 c2 c3 c4 c5 c6 c7 f => ⟨c0, f c1, c2, c3, c4, c5, c6, c7⟩) t f) (fun f t => @N8.rec (L4 FBlk) (fun _ => ((L4 FBlk) → (L4 FBlk)) → N8 (L4 FBlk)) (fun c0 c1 c2 c3 c4 c5 c6 c7 f => ⟨c0, c1, f c2, c3, c4, c5, c6, c7⟩) t f) (fun f t => @N8.rec (L4 FBlk) (fun _ => ((L4 FBlk) → (L4 FBlk)) → N8 (L4 FBlk)) (fun c0 c1 c2 c3 c4 c5 c6 c7 f => ⟨c0, c1, c2, f c3, c4, c5, c6, c7⟩) t f) (fun f t => @N8.rec (L4 FBlk) (fun _ => ((L4 FBlk) → (L4 FBlk)) → N8 (L4 FBlk)) (fun c0 c1 c2 c3 c4 c5 c6 c7 f => ⟨c0, c1, c2, c3, f c4, c5, c6, c7⟩) t f) (fun f t => @N8.rec (L4 FBlk) (fun _ => ((L4 FBlk) → (L4 FBlk)) → N8 (L4 FBlk)) (fun c0 c1 c2 c3 c4 c5 c6 c7 f => ⟨c0, c1, c2, c3, c4, f c5, c6, c7⟩) t f) (fun f t => @N8.rec (L4 FBlk) (fun _ => ((L4 FBlk) → (L4 FBlk)) → N8 (L4 FBlk)) (fun c0 c1 c2 c3 c4 c5 c6 c7 f => ⟨c0, c1, c2, c3, c4, c5, f c6, c7⟩) t f) (fun f t => @N8.rec (L4 FBlk) (fun _ => ((L4 FBlk) → (L4 FBlk)) → N8 (L4 FBlk)) (fun c0 c1 c2 c3 c4 c5 c6 c7 f => ⟨c0, c1, c2, c3, c4, c5, c6, f c7⟩) t f)
theorem hg4_eq (d : Dg) (t : N8 (L4 FBlk)) : hg4 d t = t.get d := by cases d <;> rfl
theorem hu4_eq (d : Dg) (f : (L4 FBlk) → (L4 FBlk)) (t : N8 (L4 FBlk)) : hu4 d f t = t.upd f d := by cases d <;> rfl
def hg5 : Dg → N8 (L5 FBlk) → (L5 FBlk) := @Dg.rec (fun _ => N8 (L5 FBlk) → (L5 FBlk)) (@N8.c0 (L5 FBlk)) (@N8.c1 (L5 FBlk)) (@N8.c2 (L5 FBlk)) (@N8.c3 (L5 FBlk)) (@N8.c4 (L5 FBlk)) (@N8.c5 (L5 FBlk)) (@N8.c6 (L5 FBlk)) (@N8.c7 (L5 FBlk))
def hu5 : Dg → ((L5 FBlk) → (L5 FBlk)) → N8 (L5 FBlk) → N8 (L5 FBlk) := @Dg.rec (fun _ => ((L5 FBlk) → (L5 FBlk)) → N8 (L5 FBlk) → N8 (L5 FBlk)) (fun f t => @N8.rec (L5 FBlk) (fun _ => ((L5 FBlk) → (L5 FBlk)) → N8 (L5 FBlk)) (fun c0 c1 c2 c3 c4 c5 c6 c7 f => ⟨f c0, c1, c2, c3, c4, c5, c6, c7⟩) t f) (fun f t => @N8.rec (L5 FBlk) (fun _ => ((L5 FBlk) → (L5 FBlk)) → N8 (L5 FBlk)) (fun c0 c1 c2 c3 c4 c5 c6 c7 f => ⟨c0, f c1, c2, c3, c4, c5, c6, c7⟩) t f) (fun f t => @N8.rec (L5 FBlk) (fun _ => ((L5 FBlk) → (L5 FBlk)) → N8 (L5 FBlk)) (fun c0 c1 c2 c3 c4 c5 c6 c7 f => ⟨c0, c1, f c2, c3, c4, c5, c6, c7⟩) t f) (fun f t => @N8.rec (L5 FBlk) (fun _ => ((L5 FBlk) → (L5 FBlk)) → N8 (L5 FBlk)) (fun c0 c1 c2 c3 c4 c5 c6 c7 f => ⟨c0, c1, c2, f c3, c4, c5, c6, c7⟩) t f) (fun f t => @N8.rec (L5 FBlk) (fun _ => ((L5 FBlk) → (L5 FBlk)) → N8 (L5 FBlk)) (fun c0 c1 c2 c3 c4 c5 c6 c7 f => ⟨c0, c1, c2, c3, f c4, c5, c6, c7⟩) t f) (fun f t => @N8.rec (L5 FBlk) (fun _ => ((L5 FBlk) → (L5 FBlk)) → N8 (L5 FBlk)) (fun c0 c1 c2 c3 c4 c5 c6 c7 f => ⟨c0, c1, c2, c3, c4, f c5, c6, c7⟩) t f) (fun f t => @N8.rec (L5 FBlk) (fun _ => ((L5 FBlk) → (L5 FBlk)) → N8 (L5 FBlk)) (fun c0 c1 c2 c3 c4 c5 c6 c7 f => ⟨c0, c1, c2, c3, c4, c5, f c6, c7⟩) t f) (fun f t => @N8.rec (L5 FBlk) (fun _ => ((L5 FBlk) → (L5 FBlk)) → N8 (L5 FBlk)) (fun c0 c1 c2 c3 c4 c5 c6 c7 f => ⟨c0, c1, c2, c3, c4, c5, c6, f c7⟩) t f)
theorem hg5_eq (d : Dg) (t : N8 (L5 FBlk)) : hg5 d t = t.get d := by cases d <;> rfl
theorem hu5_eq (d : Dg) (f : (L5 FBlk) → (L5 FBlk)) (t : N8 (L5 FBlk)) : hu5 d f t = t.upd f d := by cases d <;> rfl

def hB (t : Option (L3 FBlk)) (i j k : Dg) : Option FBlk := @Option.rec (L3 FBlk) (fun _ => Dg → Dg → Dg → Option FBlk) (fun _ _ _ => none) (fun t i j k => hg0 k (hg1 j (hg2 i t))) t i j k
def hC (t : Option (L6 FBlk)) (i j k l m n : Dg) : Option FBlk := @Option.rec (L6 FBlk) (fun _ => Dg → Dg → Dg → Dg → Dg → Dg → Option FBlk) (fun _ _ _ _ _ _ => none) (fun t i j k l m n => hg0 n (hg1 m (hg2 l (hg3 k (hg4 j (hg5 i t)))))) t i j k l m n
def hGet (p : Pa) : Tr FBlk → Option FBlk :=
  @Pa.rec (fun _ => Tr FBlk → Option FBlk) (fun i j t => hg0 j (hg1 i t.a)) (fun i j k t => hB t.b i j k) (fun i j k l m n t => hC t.c i j k l m n) (fun k t => t.r.get k) p

theorem hGet_eq (t : Tr FBlk) (k : Nat) : hGet (pq k) t = kTget t k := by
  rw [pq_eq]
  show hGet (pa k) t = t.getP (pa k)
  cases pa k with
  | a i j => show hg0 j (hg1 i t.a) = _; rw [hg1_eq, hg0_eq]; rfl
  | b i j l =>
    obtain ⟨a', b', c', r'⟩ := t
    cases b' with
    | none => rfl
    | some t => show hg0 l (hg1 j (hg2 i t)) = _; rw [hg2_eq, hg1_eq, hg0_eq]; rfl
  | c i j l m n o =>
    obtain ⟨a', b', c', r'⟩ := t
    cases c' with
    | none => rfl
    | some t => show hg0 o (hg1 n (hg2 m (hg3 l (hg4 j (hg5 i t))))) = _; rw [hg5_eq, hg4_eq, hg3_eq, hg2_eq, hg1_eq, hg0_eq]; rfl
  | r l => rfl

def hD3 (t : Option (L3 FBlk)) : L3 FBlk := @Option.rec (L3 FBlk) (fun _ => L3 FBlk) (none3 FBlk) (fun t => t) t
def hD6 (t : Option (L6 FBlk)) : L6 FBlk := @Option.rec (L6 FBlk) (fun _ => L6 FBlk) (none6 FBlk) (fun t => t) t
def hPB (x : Option FBlk) (i j k : Dg) (t : L3 FBlk) : L3 FBlk := hu2 i (hu1 j (hs0 k x)) t
def hPC (x : Option FBlk) (i j k l m n : Dg) (t : L6 FBlk) : L6 FBlk := hu5 i (hu4 j (hu3 k (hu2 l (hu1 m (hs0 n x))))) t
def hPut (x : Option FBlk) (p : Pa) (t : Tr FBlk) : Tr FBlk :=
  @Pa.rec (fun _ => Option FBlk → Tr FBlk → Tr FBlk)
    (fun i j x t => @Tr.rec FBlk (fun _ => Dg → Dg → Option FBlk → Tr FBlk) (fun a b c r i j x => ⟨hu1 i (hs0 j x) a, b, c, r⟩) t i j x)
    (fun i j k x t => @Tr.rec FBlk (fun _ => Dg → Dg → Dg → Option FBlk → Tr FBlk) (fun a b c r i j k x => ⟨a, some (hPB x i j k (hD3 b)), c, r⟩) t i j k x)
    (fun i j k l m n x t => @Tr.rec FBlk (fun _ => Dg → Dg → Dg → Dg → Dg → Dg → Option FBlk → Tr FBlk) (fun a b c r i j k l m n x => ⟨a, b, some (hPC x i j k l m n (hD6 c)), r⟩) t i j k l m n x)
    (fun k x t => ⟨t.a, t.b, t.c, t.r.put k x⟩) p x t

theorem hPut_eq (x : Option FBlk) (t : Tr FBlk) (k : Nat) : hPut x (pq k) t = kTput t k x := by
  rw [pq_eq]
  show hPut x (pa k) t = t.putP x (pa k)
  obtain ⟨a, b, c, r⟩ := t
  cases pa k with
  | a i j =>
    show Tr.mk (hu1 i (hs0 j x) a) b c r = Tr.mk (a.upd (fun t => t.upd (fun _ => x) j) i) b c r
    rw [hu1_eq, show hs0 j x = fun t => t.upd (fun _ => x) j from funext fun t => hs0_eq j x t]
  | b i j l =>
    show Tr.mk a (some (hu2 i (hu1 j (hs0 l x)) (hD3 b))) c r = Tr.mk a (some ((b.getD (none3 FBlk)).upd (fun t => t.upd (fun t => t.upd (fun _ => x) l) j) i)) c r
    rw [hu2_eq, show hs0 l x = fun t => t.upd (fun _ => x) l from funext fun t => hs0_eq l x t, show hu1 j (fun t => t.upd (fun _ => x) l) = fun t => t.upd (fun t => t.upd (fun _ => x) l) j from funext fun t => hu1_eq j _ t]
    cases b <;> rfl
  | c i j l m n o =>
    show Tr.mk a b (some (hu5 i (hu4 j (hu3 l (hu2 m (hu1 n (hs0 o x))))) (hD6 c))) r = Tr.mk a b (some ((c.getD (none6 FBlk)).upd (fun t => t.upd (fun t => t.upd (fun t => t.upd (fun t => t.upd (fun t => t.upd (fun _ => x) o) n) m) l) j) i)) r
    rw [hu5_eq, show hs0 o x = fun t => t.upd (fun _ => x) o from funext fun t => hs0_eq o x t, show ∀ f, hu1 n f = fun t => t.upd f n from fun f => funext fun t => hu1_eq n f t, show ∀ f, hu2 m f = fun t => t.upd f m from fun f => funext fun t => hu2_eq m f t,
      show ∀ f, hu3 l f = fun t => t.upd f l from fun f => funext fun t => hu3_eq l f t, show ∀ f, hu4 j f = fun t => t.upd f j from fun f => funext fun t => hu4_eq j f t]
    cases c <;> rfl
  | r l => rfl

/-! ### Lists of values and of rows -/

def vget (l : List FV) : Nat → Option FV :=
  @List.rec FV (fun _ => Nat → Option FV) (fun _ => none) (fun x _ ih k => Nat.rec (motive := fun _ => Option FV) (some x) (fun j _ => ih j) k) l
theorem vget_eq (l : List FV) (k : Nat) : vget l k = kget l k := rfl
def vset (l : List FV) : Nat → FV → List FV :=
  @List.rec FV (fun _ => Nat → FV → List FV) (fun _ _ => []) (fun x xs ih k v => Nat.rec (motive := fun _ => List FV) (v :: xs) (fun j _ => x :: ih j v) k) l
theorem vset_eq : ∀ (l : List FV) (k : Nat) (v : FV), vset l k v = kset l k v
  | [], _, _ => rfl
  | x :: l, 0, v => rfl
  | x :: l, k + 1, v => by
    show x :: vset l k v = x :: kset l k v
    rw [vset_eq l k v]
def vlen (l : List FV) : Nat := @List.rec FV (fun _ => Nat) 0 (fun _ _ ih => Nat.succ ih) l
theorem vlen_eq (l : List FV) : vlen l = klen l := rfl
def vapp (l m : List FV) : List FV := @List.rec FV (fun _ => List FV → List FV) (fun m => m) (fun x _ ih m => x :: ih m) l m
theorem vapp_eq : ∀ l m : List FV, vapp l m = kapp l m
  | [], m => rfl
  | x :: l, m => by show x :: vapp l m = x :: kapp l m; rw [vapp_eq l m]
def vdrop (i : Nat) (l : List FV) : List FV :=
  @List.rec FV (fun _ => Nat → List FV) (fun _ => []) (fun x xs ih k => Nat.rec (motive := fun _ => List FV) (x :: xs) (fun j _ => ih j) k) l i
theorem vdrop_eq (i : Nat) (l : List FV) : vdrop i l = kdrop i l := rfl
def vtake (i : Nat) (l : List FV) : List FV :=
  @List.rec FV (fun _ => Nat → List FV) (fun _ => []) (fun x _ ih k => Nat.rec (motive := fun _ => List FV) [] (fun j _ => x :: ih j) k) l i
theorem vtake_eq (i : Nat) (l : List FV) : vtake i l = ktake i l := rfl

def rget (l : List (List FV)) : Nat → Option (List FV) :=
  @List.rec (List FV) (fun _ => Nat → Option (List FV)) (fun _ => none) (fun x _ ih k => Nat.rec (motive := fun _ => Option (List FV)) (some x) (fun j _ => ih j) k) l
theorem rget_eq (l : List (List FV)) (k : Nat) : rget l k = kget l k := rfl
def rset (l : List (List FV)) : Nat → (List FV) → List (List FV) :=
  @List.rec (List FV) (fun _ => Nat → (List FV) → List (List FV)) (fun _ _ => []) (fun x xs ih k v => Nat.rec (motive := fun _ => List (List FV)) (v :: xs) (fun j _ => x :: ih j v) k) l
theorem rset_eq : ∀ (l : List (List FV)) (k : Nat) (v : (List FV)), rset l k v = kset l k v
  | [], _, _ => rfl
  | x :: l, 0, v => rfl
  | x :: l, k + 1, v => by
    show x :: rset l k v = x :: kset l k v
    rw [rset_eq l k v]
def rlen (l : List (List FV)) : Nat := @List.rec (List FV) (fun _ => Nat) 0 (fun _ _ ih => Nat.succ ih) l
theorem rlen_eq (l : List (List FV)) : rlen l = klen l := rfl
def rapp (l m : List (List FV)) : List (List FV) := @List.rec (List FV) (fun _ => List (List FV) → List (List FV)) (fun m => m) (fun x _ ih m => x :: ih m) l m
theorem rapp_eq : ∀ l m : List (List FV), rapp l m = kapp l m
  | [], m => rfl
  | x :: l, m => by show x :: rapp l m = x :: kapp l m; rw [rapp_eq l m]
def rdrop (i : Nat) (l : List (List FV)) : List (List FV) :=
  @List.rec (List FV) (fun _ => Nat → List (List FV)) (fun _ => []) (fun x xs ih k => Nat.rec (motive := fun _ => List (List FV)) (x :: xs) (fun j _ => ih j) k) l i
theorem rdrop_eq (i : Nat) (l : List (List FV)) : rdrop i l = kdrop i l := rfl
def rtake (i : Nat) (l : List (List FV)) : List (List FV) :=
  @List.rec (List FV) (fun _ => Nat → List (List FV)) (fun _ => []) (fun x _ ih k => Nat.rec (motive := fun _ => List (List FV)) [] (fun j _ => x :: ih j) k) l i
theorem rtake_eq (i : Nat) (l : List (List FV)) : rtake i l = ktake i l := rfl

/-! ### Values looked into -/

def natI : Int → Option Nat := @Int.rec (fun _ => Option Nat) (fun n => some n) (fun _ => none)
def natE : E → Option Nat := @E.rec (fun _ => Option Nat) natI (fun _ => none) (fun _ _ _ _ _ _ => none) (fun _ _ _ => none)
def natK : IntKind → E → Option Nat := @IntKind.rec (fun _ => E → Option Nat) (fun _ => none) (fun _ => none) (fun _ => none) natE (fun _ => none) (fun _ => none) (fun _ => none) (fun _ => none)
def natT : FT → Option Nat := @FT.rec (fun _ => Option Nat) (fun _ => Unit) (fun _ => Unit) (fun _ => Unit) (fun _ => Unit) (fun _ => Unit) (fun _ => none) (natK) (fun _ => none) (none) (none) (none) (none) (none) (fun _ _ _ => none) (fun _ _ => none) (fun _ => none) (()) (fun _ _ _ _ => ()) (()) (fun _ _ _ _ => ()) (()) (fun _ _ _ _ => ()) (fun _ _ _ _ => ()) (fun _ _ _ => ())
def natV : FV → Option Nat := @FV.rec (fun _ => Option Nat) (fun _ => Unit) (none) (natT) (fun _ _ _ => none) (fun _ _ => none) (fun _ _ _ _ => none) (fun _ => none) (fun _ _ _ => none) (fun _ _ => none) (fun _ _ => none) (fun _ => none) (fun _ _ => none) (none) (none) (fun _ => none) () (fun _ _ _ _ => ())

theorem natV_some {v : FV} {n : Nat} (h : natV v = some n) : v = .d (.int .i64 (.lit (.ofNat n))) := by
  cases v with
  | d t =>
    cases t with
    | int k e =>
      cases k <;> first | (exact absurd h (by intro h'; cases h')) | skip
      cases e with
      | lit z =>
        cases z with
        | ofNat m => cases h; rfl
        | negSucc m => cases h
      | _ => cases h
    | _ => cases h
  | _ => cases h

def oneQ : FV → Bool := @FV.rec (fun _ => Bool) (fun _ => Unit) (false) (fun _ => true) (fun _ _ _ => true) (fun _ _ => true) (fun _ _ _ _ => true) (fun _ => true) (fun _ _ _ => true) (fun _ _ => false) (fun _ _ => false) (fun _ => true) (fun _ _ => true) (true) (true) (fun _ => false) () (fun _ _ _ _ => ())

theorem oneQ_ok {v : FV} (h : oneQ v = true) : cellsK v = [v] ∧ FV.one v = true := by
  cases v <;> first | exact ⟨rfl, rfl⟩ | cases h

def cellsQ : FV → List FV := @FV.rec (fun _ => List FV) (fun _ => Unit) ([.undef]) (fun t => [.d t]) (fun b i j => [.ptr b i j]) (fun c j => [.iptr c j]) (fun b o l e => [.sl b o l e]) (fun b => [.map b]) (fun f c _ => [.fn f c]) (fun c _ => c) (fun c _ => [.tup c]) (fun b => [.yield b]) (fun b m => [.it b m]) ([.emp]) ([.opq]) (fun v => kmap .raw v.cells) () (fun _ _ _ _ => ())

theorem cellsQ_eq (v : FV) : cellsQ v = cellsK v := by cases v <;> rfl

def allOne (l : List FV) : Bool := @List.rec FV (fun _ => Bool) true (fun x _ ih => Bool.rec (motive := fun _ => Bool) (Bool.rec (motive := fun _ => Bool) false ih (FV.one x)) ih (oneQ x)) l

theorem allOne_eq : ∀ l, allOne l = kall FV.one l
  | [] => rfl
  | x :: l => by
    show Bool.rec (motive := fun _ => Bool) (Bool.rec (motive := fun _ => Bool) false (allOne l) (FV.one x)) (allOne l) (oneQ x) = (bif FV.one x then kall FV.one l else false)
    rw [allOne_eq l]
    cases h : oneQ x with
    | true => rw [(oneQ_ok h).2]; rfl
    | false => cases FV.one x <;> rfl

/-! ### Operands and where results go -/

structure TmF where
  f : Tr FV → FV

def orU : Option FV → FV := @Option.rec FV (fun _ => FV) .undef (fun v => v)
def tmpQ (p : Pa) (tm : Tr FV) : FV := orU (vGet p tm)
def conQ (v : FV) (_ : Tr FV) : FV := v
def tmpA (i j : Dg) (tm : Tr FV) : FV := orU (vg0 j (vg1 i tm.a))
def tmpB (i j k : Dg) (tm : Tr FV) : FV := orU (vB tm.b i j k)
def compT : Pa → TmF := @Pa.rec (fun _ => TmF) (fun i j => .mk (tmpA i j)) (fun i j k => .mk (tmpB i j k)) (fun i j k l m n => .mk (tmpQ (.c i j k l m n))) (fun k => .mk (tmpQ (.r k)))
theorem compT_eq (p : Pa) (tm : Tr FV) : (compT p).f tm = tmpQ p tm := by cases p <;> rfl
def compX : DOpnd → TmF := @DOpnd.rec (fun _ => TmF) (fun t => compT (pq t)) (fun v => .mk (conQ (liftV v)))

theorem compX_eq (x : DOpnd) (tm : Tr FV) : (compX x).f tm = opndK tm x := by
  cases x with
  | tmp t =>
    show (compT (pq t)).f tm = _
    rw [compT_eq]
    show orU (vGet (pq t) tm) = _
    rw [vGet_eq]; rfl
  | const v => rfl

def putA (i j : Dg) (x : Option FV) (t : Tr FV) : Tr FV := @Tr.rec FV (fun _ => Dg → Dg → Option FV → Tr FV) (fun a b c r i j x => ⟨vu1 i (vs0 j x) a, b, c, r⟩) t i j x
def putB (i j k : Dg) (x : Option FV) (t : Tr FV) : Tr FV := @Tr.rec FV (fun _ => Dg → Dg → Dg → Option FV → Tr FV) (fun a b c r i j k x => ⟨a, some (vPB x i j k (vD3 b)), c, r⟩) t i j k x

structure PutF where
  f : Tr FV → Nat → FHeap → Nat → FV → Option FSt

def putD (d : Nat) (p : Pa) (tm : Tr FV) (sz : Nat) (hp : FHeap) (nx : Nat) (v : FV) : Option FSt := Bool.rec (motive := fun _ => Option FSt) none (some ⟨vPut (some v) p tm, sz, hp, nx⟩) (Nat.ble d sz)
def putN (tm : Tr FV) (sz : Nat) (hp : FHeap) (nx : Nat) (_ : FV) : Option FSt := some ⟨tm, sz, hp, nx⟩
def compP : Option Nat → PutF := @Option.rec Nat (fun _ => PutF) (.mk putN) (fun d => .mk (putD (Nat.succ d) (pq d)))

theorem compP_eq (dst : Option Nat) (tm : Tr FV) (sz : Nat) (hp : FHeap) (nx : Nat) (v : FV) : (compP dst).f tm sz hp nx v = putK ⟨tm, sz, hp, nx⟩ dst v := by
  cases dst with
  | none => rfl
  | some d =>
    show Bool.rec (motive := fun _ => Option FSt) none (some ⟨vPut (some v) (pq d) tm, sz, hp, nx⟩) (Nat.ble (Nat.succ d) sz) = (bif Nat.blt d sz then some (⟨kTput tm d (some v), sz, hp, nx⟩ : FSt) else none)
    rw [vPut_eq]
    show _ = (bif Nat.ble (Nat.succ d) sz then some (⟨kTput tm d (some v), sz, hp, nx⟩ : FSt) else none)
    cases Nat.ble (Nat.succ d) sz <;> rfl

/-! ### Operations -/

structure StF where
  f : Facts → Tbl → FCaller → Nat → Tr FV → Nat → FHeap → Nat → Option FSt

def keepQ (v : Option FV) (pf : PutF) (tm : Tr FV) (sz : Nat) (hp : FHeap) (nx : Nat) : Option FSt := @Option.rec FV (fun _ => PutF → Tr FV → Nat → FHeap → Nat → Option FSt) (fun _ _ _ _ _ => none) (fun v pf tm sz hp nx => pf.f tm sz hp nx v) v pf tm sz hp nx
def bothP : FV × FHeap → PutF → Tr FV → Nat → Nat → Option FSt := @Prod.rec FV FHeap (fun _ => PutF → Tr FV → Nat → Nat → Option FSt) (fun v hp pf tm sz nx => pf.f tm sz hp nx v)
def bothQ (v : Option (FV × FHeap)) (pf : PutF) (tm : Tr FV) (sz nx : Nat) : Option FSt := @Option.rec (FV × FHeap) (fun _ => PutF → Tr FV → Nat → Nat → Option FSt) (fun _ _ _ _ => none) bothP v pf tm sz nx
def setQ (h : Option FHeap) (pf : PutF) (tm : Tr FV) (sz nx : Nat) : Option FSt := @Option.rec FHeap (fun _ => PutF → Tr FV → Nat → Nat → Option FSt) (fun _ _ _ _ => none) (fun hp pf tm sz nx => pf.f tm sz hp nx .undef) h pf tm sz nx

def afterK (s : FSt) (dst : Option Nat) (r : Option (FV × FHeap)) : Option FSt :=
  match r with
  | some (v, h) => putK { s with hp := h } dst v
  | none => none

theorem bothQ_eq (dst : Option Nat) (tm : Tr FV) (sz : Nat) (hp : FHeap) (nx : Nat) (r : Option (FV × FHeap)) : bothQ r (compP dst) tm sz nx = afterK ⟨tm, sz, hp, nx⟩ dst r := by
  cases r with
  | none => rfl
  | some p => exact compP_eq _ _ _ _ _ _

theorem keepQ_eq (dst : Option Nat) (tm : Tr FV) (sz : Nat) (hp : FHeap) (nx : Nat) (r : Option FV) : keepQ r (compP dst) tm sz hp nx = afterK ⟨tm, sz, hp, nx⟩ dst (keepK hp r) := by
  cases r with
  | none => rfl
  | some p => exact compP_eq _ _ _ _ _ _

theorem setQ_eq (dst : Option Nat) (tm : Tr FV) (sz : Nat) (hp : FHeap) (nx : Nat) (r : Option FHeap) : setQ r (compP dst) tm sz nx = afterK ⟨tm, sz, hp, nx⟩ dst (setF r) := by
  cases r with
  | none => rfl
  | some p => exact compP_eq _ _ _ _ _ _

/-! Numbers. -/

structure NatF where
  f : Nat → Nat → Option FV

def natAddQ (x y : Nat) : Option FV := Bool.rec (motive := fun _ => Option FV) (natAdd .i64 x y) (some (.d (.int .i64 (.lit (.ofNat (Nat.add x y)))))) (Nat.ble (Nat.succ (Nat.add x y)) 9223372036854775808)
def natSubQ (x y : Nat) : Option FV := Bool.rec (motive := fun _ => Option FV) (natSub .i64 x y) (Bool.rec (motive := fun _ => Option FV) (natSub .i64 x y) (some (.d (.int .i64 (.lit (.ofNat (Nat.sub x y)))))) (Nat.ble y x)) (Nat.ble (Nat.succ x) 9223372036854775808)

theorem natAddQ_eq (x y : Nat) : natAddQ x y = natAdd .i64 x y := by
  unfold natAddQ
  cases h : Nat.ble (Nat.succ (Nat.add x y)) 9223372036854775808 with
  | false => rfl
  | true =>
    show some _ = natAdd .i64 x y
    unfold natAdd
    rw [show (is64 .i64 && Nat.blt (Nat.add x y) 9223372036854775808) = true from h]
    rfl

theorem natSubQ_eq (x y : Nat) : natSubQ x y = natSub .i64 x y := by
  unfold natSubQ
  cases h : Nat.ble (Nat.succ x) 9223372036854775808 with
  | false => rfl
  | true =>
    cases h2 : Nat.ble y x with
    | false => rfl
    | true =>
      show some _ = natSub .i64 x y
      unfold natSub
      rw [h2, show Nat.blt x 9223372036854775808 = true from h]
      rfl

def compN : BinOp → NatF :=
  @BinOp.rec (fun _ => NatF) (.mk natAddQ) (.mk natSubQ) (.mk (natOp .mul .i64)) (.mk (natOp .quo .i64)) (.mk (natOp .rem .i64)) (.mk (natOp .and .i64)) (.mk (natOp .or .i64)) (.mk (natOp .xor .i64)) (.mk (natOp .shl .i64)) (.mk (natOp .shr .i64)) (.mk (natOp .andNot .i64))
    (.mk fun x y => some (.d (.bool (Nat.beq x y)))) (.mk fun x y => some (.d (.bool (not (Nat.beq x y))))) (.mk fun x y => some (.d (.bool (Nat.ble (Nat.succ x) y)))) (.mk fun x y => some (.d (.bool (Nat.ble x y)))) (.mk fun x y => some (.d (.bool (Nat.ble (Nat.succ y) x)))) (.mk fun x y => some (.d (.bool (Nat.ble y x))))

theorem compN_eq (op : BinOp) (x y : Nat) : (compN op).f x y = natOp op .i64 x y := by
  cases op <;> first | rfl | exact natAddQ_eq x y | exact natSubQ_eq x y

def numQ (nf : NatF) (op : BinOp) (fc : Facts) (x y : FV) : Option FV :=
  Option.rec (motive := fun _ => Option FV) (binK .num fc op x y) (fun n => Option.rec (motive := fun _ => Option FV) (binK .num fc op x y) (fun m => nf.f n m) (natV y)) (natV x)

theorem numQ_eq (op : BinOp) (fc : Facts) (x y : FV) : numQ (compN op) op fc x y = binK .num fc op x y := by
  unfold numQ
  cases hx : natV x with
  | none => rfl
  | some n =>
    cases hy : natV y with
    | none => rfl
    | some m =>
      rw [natV_some hx, natV_some hy]
      exact compN_eq op n m

def numS (nf : NatF) (op : BinOp) (xf yf : TmF) (pf : PutF) (fc : Facts) (_ : Tbl) (_ : FCaller) (_ : Nat) (tm : Tr FV) (sz : Nat) (hp : FHeap) (nx : Nat) : Option FSt := keepQ (numQ nf op fc (xf.f tm) (yf.f tm)) pf tm sz hp nx
def binS (kd : Kd) (op : BinOp) (xf yf : TmF) (pf : PutF) (fc : Facts) (_ : Tbl) (_ : FCaller) (_ : Nat) (tm : Tr FV) (sz : Nat) (hp : FHeap) (nx : Nat) : Option FSt := keepQ (binK kd fc op (xf.f tm) (yf.f tm)) pf tm sz hp nx

def compB : Kd → BinOp → DOpnd → DOpnd → PutF → StF :=
  @Kd.rec (fun _ => BinOp → DOpnd → DOpnd → PutF → StF) (fun op x y pf => .mk (numS (compN op) op (compX x) (compX y) pf)) (fun op x y pf => .mk (binS .str op (compX x) (compX y) pf)) (fun op x y pf => .mk (binS .bool op (compX x) (compX y) pf)) (fun op x y pf => .mk (binS .slc op (compX x) (compX y) pf)) (fun op x y pf => .mk (binS .ptr op (compX x) (compX y) pf)) (fun op x y pf => .mk (binS .map op (compX x) (compX y) pf)) (fun op x y pf => .mk (binS .fn op (compX x) (compX y) pf)) (fun ks op x y pf => .mk (binS (.agg ks) op (compX x) (compX y) pf))

theorem compB_eq (kd : Kd) (op : BinOp) (x y : DOpnd) (dst : Option Nat) (fc : Facts) (tb : Tbl) (cl : FCaller) (fr : Nat) (tm : Tr FV) (sz : Nat) (hp : FHeap) (nx : Nat) :
    (compB kd op x y (compP dst)).f fc tb cl fr tm sz hp nx = afterK ⟨tm, sz, hp, nx⟩ dst (evalK (.bin op kd x y) fc (opndK tm) hp fr) := by
  cases kd with
  | num =>
    show keepQ (numQ (compN op) op fc ((compX x).f tm) ((compX y).f tm)) (compP dst) tm sz hp nx = _
    rw [keepQ_eq, numQ_eq, compX_eq, compX_eq]; rfl
  | _ =>
    show keepQ (binK _ fc op ((compX x).f tm) ((compX y).f tm)) (compP dst) tm sz hp nx = _
    rw [keepQ_eq, compX_eq, compX_eq]; rfl

/-! Memory. -/

structure PartF where
  f : List FV → Nat → Option FV

def partN (n : Nat) (cs : List FV) (j : Nat) : Option FV :=
  Nat.rec (motive := fun _ => Option FV) (Bool.rec (motive := fun _ => Option FV) (partK cs 0 (some n)) (some (.agg cs)) (Nat.beq (vlen cs) n)) (fun j _ => partK cs (Nat.succ j) (some n)) j

def compA : Option Nat → PartF := @Option.rec Nat (fun _ => PartF) (.mk vget) (fun n => .mk (partN n))

theorem take_all {α : Type} : ∀ l : List α, ktake (klen l) l = l
  | [] => rfl
  | x :: l => by show x :: ktake (klen l) l = _; rw [take_all l]

theorem compA_eq (n : Option Nat) (cs : List FV) (j : Nat) : (compA n).f cs j = partK cs j n := by
  cases n with
  | none => rfl
  | some n =>
    cases j with
    | succ j => rfl
    | zero =>
      show Bool.rec (motive := fun _ => Option FV) (partK cs 0 (some n)) (some (.agg cs)) (Nat.beq (vlen cs) n) = _
      cases h : Nat.beq (vlen cs) n with
      | false => rfl
      | true =>
        have e : klen cs = n := Nat.eq_of_beq_eq_true h
        subst e
        show some (FV.agg cs) = (bif Nat.ble (Nat.add 0 (klen cs)) (klen cs) then some (FV.agg (ktake (klen cs) (kdrop 0 cs))) else none)
        rw [show Nat.add 0 (klen cs) = klen cs from Nat.zero_add _, show Nat.ble (klen cs) (klen cs) = true from ble_iff.2 (Nat.le_refl _), show kdrop 0 cs = cs by rw [kdrop_eq]; rfl, take_all]
        rfl

def rowQ (x : Option FBlk) : Option (List (List FV)) := @Option.rec FBlk (fun _ => Option (List (List FV))) none (@FBlk.rec (fun _ => Option (List (List FV))) (fun es => some es) (fun _ => none) (fun _ _ _ _ _ _ => none) (fun _ _ _ => none)) x

def loadC (x : Option (List FV)) (pt : PartF) (j : Nat) : Option FV := @Option.rec (List FV) (fun _ => PartF → Nat → Option FV) (fun _ _ => none) (fun cs pt j => pt.f cs j) x pt j
def loadR (x : Option (List (List FV))) (pt : PartF) (i j : Nat) : Option FV := @Option.rec (List (List FV)) (fun _ => PartF → Nat → Nat → Option FV) (fun _ _ _ => none) (fun es pt i j => loadC (rget es i) pt j) x pt i j
def loadQ : FV → PartF → FHeap → Option FV := @FV.rec (fun _ => PartF → FHeap → Option FV) (fun _ => Unit) (fun _ _ => none) (fun _ _ _ => none) (fun b i j pt h => loadR (rowQ (hGet (pq b) h)) pt i j) (fun cs j pt _ => pt.f (kmap .d cs) j) (fun _ _ _ _ _ _ => none) (fun _ _ _ => none) (fun _ _ _ _ _ => none) (fun _ _ _ _ => none) (fun _ _ _ _ => none) (fun _ _ _ => none) (fun _ _ _ _ => none) (fun _ _ => none) (fun _ _ => none) (fun _ _ _ => none) () (fun _ _ _ _ => ())

theorem loadQ_eq (n : Option Nat) (h : FHeap) (v : FV) : loadQ v (compA n) h = loadK h n v := by
  cases v with
  | ptr b i j =>
    show loadR (rowQ (hGet (pq b) h)) (compA n) i j = _
    rw [hGet_eq]
    simp only [loadK]
    cases kTget h b with
    | none => rfl
    | some y =>
      cases y with
      | row es =>
        show loadC (rget es i) (compA n) j = _
        rw [rget_eq]
        simp only
        cases kget es i with
        | none => rfl
        | some cs => exact compA_eq _ _ _
      | _ => rfl
  | iptr cs j => exact compA_eq _ _ _
  | _ => rfl

def loadS (pt : PartF) (af : TmF) (pf : PutF) (_ : Facts) (_ : Tbl) (_ : FCaller) (_ : Nat) (tm : Tr FV) (sz : Nat) (hp : FHeap) (nx : Nat) : Option FSt := keepQ (loadQ (af.f tm) pt hp) pf tm sz hp nx

/-- The cells of an element with some of them replaced. -/
def cutQ (n : Nat) (cs : List FV) (j : Nat) (x : FV) : List FV := vapp (vtake j cs) (vapp (cellsQ x) (vdrop (Nat.add j n) cs))
def fitQ (n : Nat) (cs : List FV) (j : Nat) (x : FV) : Option (List FV) :=
  Bool.rec (motive := fun _ => Option (List FV)) none (Bool.rec (motive := fun _ => Option (List FV)) none (Bool.rec (motive := fun _ => Option (List FV)) none (some (cutQ n cs j x)) (allOne (cellsQ x))) (Nat.ble (Nat.add j n) (vlen cs))) (Nat.beq (vlen (cellsQ x)) n)

structure SetF where
  f : List FV → Nat → FV → Option (List FV)

def fit1 (cs : List FV) (j : Nat) (x : FV) : Option (List FV) :=
  Bool.rec (motive := fun _ => Option (List FV)) (fitQ 1 cs j x) (Bool.rec (motive := fun _ => Option (List FV)) none (some (vset cs j x)) (Nat.ble (Nat.succ j) (vlen cs))) (oneQ x)

/-- A whole element. -/
def fitN (n : Nat) (cs : List FV) (j : Nat) (x : FV) : Option (List FV) :=
  Nat.rec (motive := fun _ => Option (List FV)) (Bool.rec (motive := fun _ => Option (List FV)) (fitQ n cs 0 x) (Bool.rec (motive := fun _ => Option (List FV)) (fitQ n cs 0 x) (Bool.rec (motive := fun _ => Option (List FV)) none (some (cellsQ x)) (allOne (cellsQ x))) (Nat.beq (vlen (cellsQ x)) n)) (Nat.beq (vlen cs) n)) (fun j _ => fitQ n cs (Nat.succ j) x) j

def fitK (n : Nat) (cs : List FV) (j : Nat) (x : FV) : Option (List FV) :=
  bif Nat.beq (klen (cellsK x)) n && (Nat.ble (Nat.add j n) (klen cs) && kall FV.one (cellsK x)) then some (kapp (ktake j cs) (kapp (cellsK x) (kdrop (Nat.add j n) cs))) else none

theorem fitQ_eq (n : Nat) (cs : List FV) (j : Nat) (x : FV) : fitQ n cs j x = fitK n cs j x := by
  unfold fitQ fitK cutQ
  rw [cellsQ_eq, vlen_eq, vlen_eq, allOne_eq, vapp_eq, vapp_eq, vtake_eq, vdrop_eq]
  cases Nat.beq (klen (cellsK x)) n <;> cases Nat.ble (Nat.add j n) (klen cs) <;> cases kall FV.one (cellsK x) <;> rfl

theorem set_cut {α : Type} (x : α) : ∀ (cs : List α) (j : Nat), Nat.ble (Nat.succ j) (klen cs) = true → kset cs j x = kapp (ktake j cs) (x :: kdrop (Nat.add j 1) cs)
  | [], j, h => by simp [klen] at h
  | y :: cs, 0, h => by
    show x :: cs = x :: kdrop (Nat.add 0 1) (y :: cs)
    rw [kdrop_eq]; rfl
  | y :: cs, j + 1, h => by
    show y :: kset cs j x = y :: kapp (ktake j cs) (x :: kdrop (Nat.add (j + 1) 1) (y :: cs))
    rw [set_cut x cs j h]
    congr 3

theorem fit1_eq (cs : List FV) (j : Nat) (x : FV) : fit1 cs j x = fitK 1 cs j x := by
  unfold fit1
  cases h : oneQ x with
  | false => exact fitQ_eq _ _ _ _
  | true =>
    obtain ⟨h1, h2⟩ := oneQ_ok h
    show Bool.rec (motive := fun _ => Option (List FV)) none (some (vset cs j x)) (Nat.ble (Nat.succ j) (vlen cs)) = _
    unfold fitK
    rw [h1, vset_eq, vlen_eq, show klen [x] = 1 from rfl, show Nat.beq 1 1 = true from rfl, show kall FV.one [x] = FV.one x by show (bif FV.one x then true else false) = _; cases FV.one x <;> rfl, h2]
    show _ = (bif (Nat.ble (Nat.succ j) (klen cs) && true) then some (kapp (ktake j cs) (x :: kdrop (Nat.add j 1) cs)) else none)
    cases hb : Nat.ble (Nat.succ j) (klen cs) with
    | false => rfl
    | true => rw [set_cut x cs j hb]; rfl

theorem fitN_eq (n : Nat) (cs : List FV) (j : Nat) (x : FV) : fitN n cs j x = fitK n cs j x := by
  cases j with
  | succ j => exact fitQ_eq _ _ _ _
  | zero =>
    show Bool.rec (motive := fun _ => Option (List FV)) (fitQ n cs 0 x) (Bool.rec (motive := fun _ => Option (List FV)) (fitQ n cs 0 x) (Bool.rec (motive := fun _ => Option (List FV)) none (some (cellsQ x)) (allOne (cellsQ x))) (Nat.beq (vlen (cellsQ x)) n)) (Nat.beq (vlen cs) n) = _
    rw [fitQ_eq]
    cases h1 : Nat.beq (vlen cs) n with
    | false => rfl
    | true =>
      cases h2 : Nat.beq (vlen (cellsQ x)) n with
      | false => rfl
      | true =>
        have e1 : klen cs = n := Nat.eq_of_beq_eq_true h1
        have h2' : Nat.beq (klen (cellsK x)) n = true := by rw [← cellsQ_eq]; exact h2
        show Bool.rec (motive := fun _ => Option (List FV)) none (some (cellsQ x)) (allOne (cellsQ x)) = _
        unfold fitK
        subst e1
        rw [h2', cellsQ_eq, allOne_eq, show Nat.add 0 (klen cs) = klen cs from Nat.zero_add _, show Nat.ble (klen cs) (klen cs) = true from ble_iff.2 (Nat.le_refl _)]
        have e3 : kapp (ktake 0 cs) (kapp (cellsK x) (kdrop (klen cs) cs)) = cellsK x := by
          rw [kapp_eq, kapp_eq, ktake_eq, kdrop_eq, klen_eq]; simp
        rw [e3]
        cases kall FV.one (cellsK x) <;> rfl

def compF (n : Nat) : SetF := Nat.rec (motive := fun _ => SetF) (.mk (fitN 0)) (fun m _ => Nat.rec (motive := fun _ => SetF) (.mk fit1) (fun k _ => .mk (fitN (Nat.succ (Nat.succ k)))) m) n

theorem compF_eq (n : Nat) (cs : List FV) (j : Nat) (x : FV) : (compF n).f cs j x = fitK n cs j x := by
  match n with
  | 0 => exact fitN_eq _ _ _ _
  | 1 => exact fit1_eq _ _ _
  | n + 2 => exact fitN_eq _ _ _ _

def storeD (x : Option (List FV)) (es : List (List FV)) (i b : Nat) (h : FHeap) : Option FHeap := @Option.rec (List FV) (fun _ => List (List FV) → Nat → Nat → FHeap → Option FHeap) (fun _ _ _ _ => none) (fun cs es i b h => some (hPut (some (.row (rset es i cs))) (pq b) h)) x es i b h
def storeC (x : Option (List FV)) (sf : SetF) (j : Nat) (v : FV) (es : List (List FV)) (i b : Nat) (h : FHeap) : Option FHeap := @Option.rec (List FV) (fun _ => SetF → Nat → FV → List (List FV) → Nat → Nat → FHeap → Option FHeap) (fun _ _ _ _ _ _ _ => none) (fun cs sf j v es i b h => storeD (sf.f cs j v) es i b h) x sf j v es i b h
def storeR (x : Option (List (List FV))) (sf : SetF) (i j : Nat) (v : FV) (b : Nat) (h : FHeap) : Option FHeap := @Option.rec (List (List FV)) (fun _ => SetF → Nat → Nat → FV → Nat → FHeap → Option FHeap) (fun _ _ _ _ _ _ => none) (fun es sf i j v b h => storeC (rget es i) sf j v es i b h) x sf i j v b h
def storeQ : FV → SetF → FHeap → FV → Option FHeap := @FV.rec (fun _ => SetF → FHeap → FV → Option FHeap) (fun _ => Unit) (fun _ _ _ => none) (fun _ _ _ _ => none) (fun b i j sf h v => storeR (rowQ (hGet (pq b) h)) sf i j v b h) (fun _ _ _ _ _ => none) (fun _ _ _ _ _ _ _ => none) (fun _ _ _ _ => none) (fun _ _ _ _ _ _ => none) (fun _ _ _ _ _ => none) (fun _ _ _ _ _ => none) (fun _ _ _ _ => none) (fun _ _ _ _ _ => none) (fun _ _ _ => none) (fun _ _ _ => none) (fun _ _ _ _ => none) () (fun _ _ _ _ => ())

theorem storeQ_eq (n : Nat) (h : FHeap) (p x : FV) : storeQ p (compF n) h x = storeK h n p x := by
  cases p with
  | ptr b i j =>
    show storeR (rowQ (hGet (pq b) h)) (compF n) i j x b h = _
    rw [hGet_eq]
    simp only [storeK]
    cases kTget h b with
    | none => rfl
    | some y =>
      cases y with
      | row es =>
        show storeC (rget es i) (compF n) j x es i b h = _
        rw [rget_eq]
        simp only
        cases kget es i with
        | none => rfl
        | some cs =>
          show storeD ((compF n).f cs j x) es i b h = (bif Nat.beq (klen (cellsK x)) n && (Nat.ble (Nat.add j n) (klen cs) && kall FV.one (cellsK x)) then some (kTput h b (some (.row (kset es i (kapp (ktake j cs) (kapp (cellsK x) (kdrop (Nat.add j n) cs))))))) else none)
          rw [compF_eq]
          unfold fitK
          cases (Nat.beq (klen (cellsK x)) n && (Nat.ble (Nat.add j n) (klen cs) && kall FV.one (cellsK x))) with
          | false => rfl
          | true =>
            show some (hPut (some (.row (rset es i _))) (pq b) h) = some _
            rw [hPut_eq, rset_eq]
      | _ => rfl
  | _ => rfl

def storeS (sf : SetF) (af xf : TmF) (pf : PutF) (_ : Facts) (_ : Tbl) (_ : FCaller) (_ : Nat) (tm : Tr FV) (sz : Nat) (hp : FHeap) (nx : Nat) : Option FSt := setQ (storeQ (af.f tm) sf hp (xf.f tm)) pf tm sz nx

def fieldQ : FV → Nat → Option FV := @FV.rec (fun _ => Nat → Option FV) (fun _ => Unit) (fun _ => none) (fun _ _ => none) (fun b i j off => some (.ptr b i (Nat.add j off))) (fun cs j off => some (.iptr cs (Nat.add j off))) (fun _ _ _ _ _ => none) (fun _ _ => none) (fun _ _ _ _ => none) (fun _ _ _ => none) (fun _ _ _ => none) (fun _ _ => none) (fun _ _ _ => none) (fun _ => none) (fun _ => none) (fun _ _ => none) () (fun _ _ _ _ => ())
theorem fieldQ_eq (off : Nat) (v : FV) : fieldQ v off = fieldF off v := by cases v <;> rfl
def fieldS (off : Nat) (xf : TmF) (pf : PutF) (_ : Facts) (_ : Tbl) (_ : FCaller) (_ : Nat) (tm : Tr FV) (sz : Nat) (hp : FHeap) (nx : Nat) : Option FSt := keepQ (fieldQ (xf.f tm) off) pf tm sz hp nx

def aggQ : FV → PartF → Option FV := @FV.rec (fun _ => PartF → Option FV) (fun _ => Unit) (fun _ => none) (fun _ _ => none) (fun _ _ _ _ => none) (fun _ _ _ => none) (fun _ _ _ _ _ => none) (fun _ _ => none) (fun _ _ _ _ => none) (fun cs _ pt => pt.f cs 0) (fun _ _ _ => none) (fun _ _ => none) (fun _ _ _ => none) (fun _ => none) (fun _ => none) (fun _ _ => none) () (fun _ _ _ _ => ())
def fieldOfQ (off : Nat) : FV → PartF → Option FV := @FV.rec (fun _ => PartF → Option FV) (fun _ => Unit) (fun _ => none) (fun _ _ => none) (fun _ _ _ _ => none) (fun _ _ _ => none) (fun _ _ _ _ _ => none) (fun _ _ => none) (fun _ _ _ _ => none) (fun cs _ pt => pt.f cs off) (fun _ _ _ => none) (fun _ _ => none) (fun _ _ _ => none) (fun _ => none) (fun _ => none) (fun _ _ => none) () (fun _ _ _ _ => ())
theorem fieldOfQ_eq (off : Nat) (n : Option Nat) (v : FV) : fieldOfQ off v (compA n) = fieldOfK off n v := by
  cases v <;> first | rfl | exact compA_eq _ _ _
def fieldOfS (off : Nat) (pt : PartF) (xf : TmF) (pf : PutF) (_ : Facts) (_ : Tbl) (_ : FCaller) (_ : Nat) (tm : Tr FV) (sz : Nat) (hp : FHeap) (nx : Nat) : Option FSt := keepQ (fieldOfQ off (xf.f tm) pt) pf tm sz hp nx

def ixT : FT → Nat → Nat → Option FV := @FT.rec (fun _ => Nat → Nat → Option FV) (fun _ => Unit) (fun _ => Unit) (fun _ => Unit) (fun _ => Unit) (fun _ => Unit) (fun _ _ _ => none) (fun _ _ _ _ => none) (fun _ _ _ => none) (fun _ _ => none) (fun _ _ => none) (fun _ _ => none) (fun _ _ => none) (fun _ _ => none) (fun z es _ esz n => Bool.rec (motive := fun _ => Option FV) none (Option.rec (motive := fun _ => Option FV) none (fun cs => some (.iptr cs 0)) (kget es n)) (Nat.beq z esz)) (fun _ _ _ _ => none) (fun _ _ _ => none) (()) (fun _ _ _ _ => ()) (()) (fun _ _ _ _ => ()) (()) (fun _ _ _ _ => ()) (fun _ _ _ _ => ()) (fun _ _ _ => ())
def ixN : FV → Nat → Nat → Option FV := @FV.rec (fun _ => Nat → Nat → Option FV) (fun _ => Unit) (fun _ _ => none) (ixT) (fun _ _ _ _ _ => none) (fun _ _ _ _ => none) (fun b off len z esz n => Bool.rec (motive := fun _ => Option FV) none (Bool.rec (motive := fun _ => Option FV) none (some (.ptr b (Nat.add off n) 0)) (Nat.ble (Nat.succ n) len)) (Nat.beq z esz)) (fun _ _ _ => none) (fun _ _ _ _ _ => none) (fun _ _ _ _ => none) (fun _ _ _ _ => none) (fun _ _ _ => none) (fun _ _ _ _ => none) (fun _ _ => none) (fun _ _ => none) (fun _ _ _ => none) () (fun _ _ _ _ => ())
def ixA : FV → Nat → Nat → Option FV := @FV.rec (fun _ => Nat → Nat → Option FV) (fun _ => Unit) (fun _ _ => none) (fun _ _ _ => none) (fun b i j esz n => some (.ptr b i (Nat.add j (Nat.mul n esz)))) (fun cs j esz n => some (.iptr cs (Nat.add j (Nat.mul n esz)))) (fun _ _ _ _ _ _ => none) (fun _ _ _ => none) (fun _ _ _ _ _ => none) (fun _ _ _ _ => none) (fun _ _ _ _ => none) (fun _ _ _ => none) (fun _ _ _ _ => none) (fun _ _ => none) (fun _ _ => none) (fun _ _ _ => none) () (fun _ _ _ _ => ())
def ixQ (arr : Option Nat) (esz : Nat) (x ix : FV) : Option FV :=
  Option.rec (motive := fun _ => Option FV) (indexAddrK arr esz x ix) (fun n => Option.rec (motive := fun _ => Option FV) (ixN x esz n) (fun len => Bool.rec (motive := fun _ => Option FV) none (ixA x esz n) (Nat.ble (Nat.succ n) len)) arr) (natV ix)

theorem ixQ_eq (arr : Option Nat) (esz : Nat) (x ix : FV) : ixQ arr esz x ix = indexAddrK arr esz x ix := by
  unfold ixQ
  cases h : natV ix with
  | none => rfl
  | some n =>
    rw [natV_some h]
    cases arr with
    | none =>
      show ixN x esz n = _
      cases x with
      | sl b off len z =>
        show Bool.rec (motive := fun _ => Option FV) none (Bool.rec (motive := fun _ => Option FV) none (some (.ptr b (Nat.add off n) 0)) (Nat.ble (Nat.succ n) len)) (Nat.beq z esz) = (bif Nat.beq z esz && Nat.ble (Nat.succ n) len then some (.ptr b (Nat.add off n) 0) else none)
        cases Nat.beq z esz <;> cases Nat.ble (Nat.succ n) len <;> rfl
      | d t =>
        cases t with
        | lst z es =>
          show Bool.rec (motive := fun _ => Option FV) none (Option.rec (motive := fun _ => Option FV) none (fun cs => some (.iptr cs 0)) (kget es n)) (Nat.beq z esz) = (bif Nat.beq z esz then (match kget es n with | some cs => some (.iptr cs 0) | none => none) else none)
          cases Nat.beq z esz <;> cases kget es n <;> rfl
        | _ => rfl
      | _ => rfl
    | some len =>
      show Bool.rec (motive := fun _ => Option FV) none (ixA x esz n) (Nat.ble (Nat.succ n) len) = (bif Nat.ble (Nat.succ n) len then (match x with | .ptr b i j => some (.ptr b i (Nat.add j (Nat.mul n esz))) | .iptr cs j => some (.iptr cs (Nat.add j (Nat.mul n esz))) | _ => none) else none)
      cases Nat.ble (Nat.succ n) len with
      | false => rfl
      | true => cases x <;> rfl

def ixS (arr : Option Nat) (esz : Nat) (xf yf : TmF) (pf : PutF) (_ : Facts) (_ : Tbl) (_ : FCaller) (_ : Nat) (tm : Tr FV) (sz : Nat) (hp : FHeap) (nx : Nat) : Option FSt := keepQ (ixQ arr esz (xf.f tm) (yf.f tm)) pf tm sz hp nx

def lenT : FT → Option FV := @FT.rec (fun _ => Option FV) (fun _ => Unit) (fun _ => Unit) (fun _ => Unit) (fun _ => Unit) (fun _ => Unit) (fun _ => none) (fun _ _ => none) (fun _ => none) (none) (some (.d (.int .i64 (.lit (.ofNat 0))))) (none) (none) (none) (fun _ es _ => some (.d (.int .i64 (.lit (.ofNat (klen es)))))) (fun _ _ => none) (fun _ => none) (()) (fun _ _ _ _ => ()) (()) (fun _ _ _ _ => ()) (()) (fun _ _ _ _ => ()) (fun _ _ _ _ => ()) (fun _ _ _ => ())
def lenV : FV → Option FV := @FV.rec (fun _ => Option FV) (fun _ => Unit) (none) (lenT) (fun _ _ _ => none) (fun _ _ => none) (fun _ _ len _ => some (.d (.int .i64 (.lit (.ofNat len))))) (fun _ => none) (fun _ _ _ => none) (fun _ _ => none) (fun _ _ => none) (fun _ => none) (fun _ _ => none) (some (.d (.int .i64 (.lit (.ofNat 0))))) (none) (fun _ => none) () (fun _ _ _ _ => ())
def lenS (xf : TmF) (pf : PutF) (_ : Facts) (_ : Tbl) (_ : FCaller) (_ : Nat) (tm : Tr FV) (sz : Nat) (hp : FHeap) (nx : Nat) : Option FSt := keepQ (lenV (xf.f tm)) pf tm sz hp nx
theorem lenV_eq (h : FHeap) (v : FV) : lenV v = lenK .slc h v := by
  cases v with
  | d t => cases t <;> rfl
  | _ => rfl

def fillOne (off size : Nat) (cells xs : List FV) : Option (List FV) :=
  Bool.rec (motive := fun _ => Option (List FV)) none (Bool.rec (motive := fun _ => Option (List FV)) none (some (vapp (vtake off cells) (vapp xs (vdrop (Nat.add off size) cells)))) (Nat.ble (Nat.add off size) (vlen cells))) (Nat.beq (vlen xs) size)
theorem fillOne_eq (off size : Nat) (cells xs : List FV) : fillOne off size cells xs = (bif Nat.beq (klen xs) size && Nat.ble (Nat.add off size) (klen cells) then some (kapp (ktake off cells) (kapp xs (kdrop (Nat.add off size) cells))) else none) := by
  unfold fillOne
  rw [vapp_eq, vapp_eq, vtake_eq, vdrop_eq, vlen_eq, vlen_eq]
  cases Nat.beq (klen xs) size <;> cases Nat.ble (Nat.add off size) (klen cells) <;> rfl
def rowOne (i esz : Nat) (es : List (List FV)) (xs : List FV) : Option (List (List FV)) :=
  Bool.rec (motive := fun _ => Option (List (List FV))) none (Bool.rec (motive := fun _ => Option (List (List FV))) none (Bool.rec (motive := fun _ => Option (List (List FV))) none (some (rset es i xs)) (allOne xs)) (Nat.ble (Nat.succ i) (rlen es))) (Nat.beq (vlen xs) esz)
theorem rowOne_eq (i esz : Nat) (es : List (List FV)) (xs : List FV) : rowOne i esz es xs = (bif Nat.beq (klen xs) esz && (Nat.blt i (klen es) && kall FV.one xs) then some (kset es i xs) else none) := by
  unfold rowOne
  rw [rset_eq, allOne_eq, rlen_eq, vlen_eq]
  show _ = (bif Nat.beq (klen xs) esz && (Nat.ble (Nat.succ i) (klen es) && kall FV.one xs) then some (kset es i xs) else none)
  cases Nat.beq (klen xs) esz <;> cases Nat.ble (Nat.succ i) (klen es) <;> cases kall FV.one xs <;> rfl

/-! Structs, rows, appends. -/

def fillQ (tm : Tr FV) : List (Nat × Nat × DOpnd) → List FV → Option (List FV) :=
  @List.rec (Nat × Nat × DOpnd) (fun _ => List FV → Option (List FV)) (fun cells => some cells) (fun e _ ih cells => Option.rec (motive := fun _ => Option (List FV)) none ih (fillOne e.1 e.2.1 cells (cellsQ ((compX e.2.2).f tm))))
theorem fillQ_eq (tm : Tr FV) : ∀ (l : List (Nat × Nat × DOpnd)) (cells : List FV), fillQ tm l cells = fillK (opndK tm) l cells
  | [], _ => rfl
  | (off, size, x) :: rest, cells => by
    show Option.rec (motive := fun _ => Option (List FV)) none (fillQ tm rest) (fillOne off size cells (cellsQ ((compX x).f tm))) = (bif Nat.beq (klen (cellsK (opndK tm x))) size && Nat.ble (Nat.add off size) (klen cells) then fillK (opndK tm) rest (kapp (ktake off cells) (kapp (cellsK (opndK tm x)) (kdrop (Nat.add off size) cells))) else none)
    rw [compX_eq, cellsQ_eq, fillOne_eq]
    cases (Nat.beq (klen (cellsK (opndK tm x))) size && Nat.ble (Nat.add off size) (klen cells)) with
    | false => rfl
    | true => exact fillQ_eq tm rest _
def aggO (x : Option (List FV)) : Option FV := @Option.rec (List FV) (fun _ => Option FV) none (fun cs => some (.agg cs)) x
def buildS (zero : List FV) (parts : List (Nat × Nat × DOpnd)) (pf : PutF) (_ : Facts) (_ : Tbl) (_ : FCaller) (_ : Nat) (tm : Tr FV) (sz : Nat) (hp : FHeap) (nx : Nat) : Option FSt := keepQ (aggO (fillQ tm parts zero)) pf tm sz hp nx

def fillRowsQ (tm : Tr FV) (esz : Nat) : List (Nat × DOpnd) → List (List FV) → Option (List (List FV)) :=
  @List.rec (Nat × DOpnd) (fun _ => List (List FV) → Option (List (List FV))) (fun es => some es) (fun e _ ih es => Option.rec (motive := fun _ => Option (List (List FV))) none ih (rowOne e.1 esz es (cellsQ ((compX e.2).f tm))))
theorem fillRowsQ_eq (tm : Tr FV) (esz : Nat) : ∀ (l : List (Nat × DOpnd)) (es : List (List FV)), fillRowsQ tm esz l es = fillRowsK (opndK tm) esz l es
  | [], _ => rfl
  | (i, x) :: rest, es => by
    show Option.rec (motive := fun _ => Option (List (List FV))) none (fillRowsQ tm esz rest) (rowOne i esz es (cellsQ ((compX x).f tm))) = (bif Nat.beq (klen (cellsK (opndK tm x))) esz && (Nat.blt i (klen es) && kall FV.one (cellsK (opndK tm x))) then fillRowsK (opndK tm) esz rest (kset es i (cellsK (opndK tm x))) else none)
    rw [compX_eq, cellsQ_eq, rowOne_eq]
    cases (Nat.beq (klen (cellsK (opndK tm x))) esz && (Nat.blt i (klen es) && kall FV.one (cellsK (opndK tm x)))) with
    | false => rfl
    | true => exact fillRowsQ_eq tm esz rest _
def rowO (fr len esz : Nat) (hp : FHeap) (x : Option (List (List FV))) : Option (FV × FHeap) := @Option.rec (List (List FV)) (fun _ => Nat → Nat → Nat → FHeap → Option (FV × FHeap)) (fun _ _ _ _ => none) (fun es fr len esz hp => some (.sl fr 0 len esz, hPut (some (.row es)) (pq fr) hp)) x fr len esz hp
def buildSlS (esz len : Nat) (zero : List (List FV)) (parts : List (Nat × DOpnd)) (pf : PutF) (_ : Facts) (_ : Tbl) (_ : FCaller) (fr : Nat) (tm : Tr FV) (sz : Nat) (hp : FHeap) (nx : Nat) : Option FSt := bothQ (rowO fr len esz hp (fillRowsQ tm esz parts zero)) pf tm sz nx

def someR (es : List (List FV)) : Option (List (List FV)) := some es
def elT : FT → Nat → Option (List (List FV)) := @FT.rec (fun _ => Nat → Option (List (List FV))) (fun _ => Unit) (fun _ => Unit) (fun _ => Unit) (fun _ => Unit) (fun _ => Unit) (fun _ _ => none) (fun _ _ _ => none) (fun _ _ => none) (fun _ => none) (fun _ => some []) (fun _ => none) (fun _ => none) (fun _ => none) (fun z es _ esz => Bool.rec (motive := fun _ => Option (List (List FV))) none (some (kmap (fun e => kmap .d e) es)) (Nat.beq z esz)) (fun _ _ _ => none) (fun _ _ => none) (()) (fun _ _ _ _ => ()) (()) (fun _ _ _ _ => ()) (()) (fun _ _ _ _ => ()) (fun _ _ _ _ => ()) (fun _ _ _ => ())
def elsOfR (x : Option (List (List FV))) (z esz off len : Nat) : Option (List (List FV)) :=
  @Option.rec (List (List FV)) (fun _ => Nat → Nat → Nat → Nat → Option (List (List FV))) (fun _ _ _ _ => none) (fun es z esz off len => Bool.rec (motive := fun _ => Option (List (List FV))) none (Bool.rec (motive := fun _ => Option (List (List FV))) none (some (rtake len (rdrop off es))) (Nat.ble (Nat.add off len) (rlen es))) (Nat.beq z esz)) x z esz off len
def elQ : FV → Nat → FHeap → Option (List (List FV)) := @FV.rec (fun _ => Nat → FHeap → Option (List (List FV))) (fun _ => Unit) (fun _ _ => none) (fun t esz _ => elT t esz) (fun _ _ _ _ _ => none) (fun _ _ _ _ => none) (fun b off len z esz h => elsOfR (rowQ (hGet (pq b) h)) z esz off len) (fun _ _ _ => none) (fun _ _ _ _ _ => none) (fun _ _ _ _ => none) (fun _ _ _ _ => none) (fun _ _ _ => none) (fun _ _ _ _ => none) (fun _ _ => none) (fun _ _ => none) (fun _ _ _ => none) () (fun _ _ _ _ => ())
theorem elQ_eq (h : FHeap) (esz : Nat) (x : FV) : elQ x esz h = slElemsK h esz x := by
  cases x with
  | sl b off len z =>
    show elsOfR (rowQ (hGet (pq b) h)) z esz off len = _
    rw [hGet_eq]
    simp only [slElemsK]
    cases kTget h b with
    | none => rfl
    | some y =>
      cases y with
      | row es =>
        show Bool.rec (motive := fun _ => Option (List (List FV))) none (Bool.rec (motive := fun _ => Option (List (List FV))) none (some (rtake len (rdrop off es))) (Nat.ble (Nat.add off len) (rlen es))) (Nat.beq z esz) = (bif Nat.beq z esz && Nat.ble (Nat.add off len) (klen es) then some (ktake len (kdrop off es)) else none)
        rw [rtake_eq, rdrop_eq, rlen_eq]
        cases Nat.beq z esz <;> cases Nat.ble (Nat.add off len) (klen es) <;> rfl
      | _ => rfl
  | d t =>
    cases t with
    | lst z es =>
      show Bool.rec (motive := fun _ => Option (List (List FV))) none (some (kmap (fun e => kmap .d e) es)) (Nat.beq z esz) = (bif Nat.beq z esz then some (kmap (fun e => kmap .d e) es) else none)
      cases Nat.beq z esz <;> rfl
    | _ => rfl
  | _ => rfl

def app0 (esz bytes : Nat) (h : FHeap) (fr : Nat) : List (List FV) → Option (FV × FHeap) :=
  @List.rec (List FV) (fun _ => Option (FV × FHeap)) (some (.d .nils, h)) (fun x xs _ => Bool.rec (motive := fun _ => Option (FV × FHeap)) none (some (.sl fr 0 (rlen (x :: xs)) esz, hPut (some (.row (x :: xs))) (pq fr) h)) (Nat.ble (Nat.mul (rlen (x :: xs)) bytes) 140737488355328))
def appR (x : Option (List (List FV))) (esz bytes : Nat) (h : FHeap) (fr : Nat) (xs : List (List FV)) (b off len z : Nat) : Option (FV × FHeap) :=
  @Option.rec (List (List FV)) (fun _ => Nat → Nat → FHeap → Nat → List (List FV) → Nat → Nat → Nat → Nat → Option (FV × FHeap)) (fun _ _ _ _ _ _ _ _ _ => none)
    (fun es esz bytes h fr xs b off len z => Bool.rec (motive := fun _ => Option (FV × FHeap)) none (Bool.rec (motive := fun _ => Option (FV × FHeap)) none (Bool.rec (motive := fun _ => Option (FV × FHeap)) none
      (some (.sl fr 0 (Nat.add len (rlen xs)) esz, hPut (some (.row (rapp (rtake len (rdrop off es)) xs))) (pq fr) (hPut none (pq b) h)))
      (Nat.ble (Nat.mul (Nat.add len (rlen xs)) bytes) 140737488355328)) (Nat.ble (Nat.add off len) (rlen es))) (Nat.beq z esz)) x esz bytes h fr xs b off len z
def appT : FT → Nat → Nat → FHeap → Nat → List (List FV) → Option (FV × FHeap) := @FT.rec (fun _ => Nat → Nat → FHeap → Nat → List (List FV) → Option (FV × FHeap)) (fun _ => Unit) (fun _ => Unit) (fun _ => Unit) (fun _ => Unit) (fun _ => Unit) (fun _ _ _ _ _ _ => none) (fun _ _ _ _ _ _ _ => none) (fun _ _ _ _ _ _ => none) (fun _ _ _ _ _ => none) (fun esz bytes h fr xs => app0 esz bytes h fr xs) (fun _ _ _ _ _ => none) (fun _ _ _ _ _ => none) (fun _ _ _ _ _ => none) (fun _ _ _ _ _ _ _ _ => none) (fun _ _ _ _ _ _ _ => none) (fun _ _ _ _ _ _ => none) (()) (fun _ _ _ _ => ()) (()) (fun _ _ _ _ => ()) (()) (fun _ _ _ _ => ()) (fun _ _ _ _ => ()) (fun _ _ _ => ())
def appV : FV → Nat → Nat → FHeap → Nat → List (List FV) → Option (FV × FHeap) := @FV.rec (fun _ => Nat → Nat → FHeap → Nat → List (List FV) → Option (FV × FHeap)) (fun _ => Unit) (fun _ _ _ _ _ => none) (appT) (fun _ _ _ _ _ _ _ _ => none) (fun _ _ _ _ _ _ _ => none) (fun b off len z esz bytes h fr xs => appR (rowQ (hGet (pq b) h)) esz bytes h fr xs b off len z) (fun _ _ _ _ _ _ => none) (fun _ _ _ _ _ _ _ _ => none) (fun _ _ _ _ _ _ _ => none) (fun _ _ _ _ _ _ _ => none) (fun _ _ _ _ _ _ => none) (fun _ _ _ _ _ _ _ => none) (fun _ _ _ _ _ => none) (fun _ _ _ _ _ => none) (fun _ _ _ _ _ _ => none) () (fun _ _ _ _ => ())
def appQ (esz bytes : Nat) (h : FHeap) (s x : FV) (fr : Nat) : Option (FV × FHeap) :=
  @Option.rec (List (List FV)) (fun _ => Nat → Nat → FHeap → FV → Nat → Option (FV × FHeap)) (fun _ _ _ _ _ => none) (fun xs esz bytes h s fr => appV s esz bytes h fr xs) (elQ x esz h) esz bytes h s fr

theorem appQ_eq (esz bytes : Nat) (h : FHeap) (s x : FV) (fr : Nat) : appQ esz bytes h s x fr = appendK esz bytes h s x fr := by
  unfold appQ appendK
  rw [elQ_eq]
  cases slElemsK h esz x with
  | none => rfl
  | some xs =>
    show appV s esz bytes h fr xs = _
    cases s with
    | sl b off len z =>
      show appR (rowQ (hGet (pq b) h)) esz bytes h fr xs b off len z = _
      rw [hGet_eq]
      simp only
      cases kTget h b with
      | none => rfl
      | some y =>
        cases y with
        | row es =>
          show Bool.rec (motive := fun _ => Option (FV × FHeap)) none (Bool.rec (motive := fun _ => Option (FV × FHeap)) none (Bool.rec (motive := fun _ => Option (FV × FHeap)) none
            (some (FV.sl fr 0 (Nat.add len (rlen xs)) esz, hPut (some (.row (rapp (rtake len (rdrop off es)) xs))) (pq fr) (hPut none (pq b) h)))
            (Nat.ble (Nat.mul (Nat.add len (rlen xs)) bytes) 140737488355328)) (Nat.ble (Nat.add off len) (rlen es))) (Nat.beq z esz) = (bif Nat.beq z esz && (Nat.ble (Nat.add off len) (klen es) && Nat.ble (Nat.mul (Nat.add len (klen xs)) bytes) 140737488355328) then
              some (FV.sl fr 0 (Nat.add len (klen xs)) esz, kTput (kTput h b none) fr (some (.row (kapp (ktake len (kdrop off es)) xs)))) else none)
          rw [hPut_eq, hPut_eq, rapp_eq, rtake_eq, rdrop_eq, rlen_eq, rlen_eq]
          cases Nat.beq z esz <;> cases Nat.ble (Nat.add off len) (klen es) <;> cases Nat.ble (Nat.mul (Nat.add len (klen xs)) bytes) 140737488355328 <;> rfl
        | _ => rfl
    | d t =>
      cases t with
      | nils =>
        cases xs with
        | nil => rfl
        | cons x xs =>
          show Bool.rec (motive := fun _ => Option (FV × FHeap)) none (some (FV.sl fr 0 (rlen (x :: xs)) esz, hPut (some (.row (x :: xs))) (pq fr) h)) (Nat.ble (Nat.mul (rlen (x :: xs)) bytes) 140737488355328) = (bif Nat.ble (Nat.mul (klen (x :: xs)) bytes) 140737488355328 then some (FV.sl fr 0 (klen (x :: xs)) esz, kTput h fr (some (.row (x :: xs)))) else none)
          rw [hPut_eq, rlen_eq]
          cases Nat.ble (Nat.mul (klen (x :: xs)) bytes) 140737488355328 <;> rfl
      | _ => rfl
    | _ => rfl

def boolT : FT → Option Bool := @FT.rec (fun _ => Option Bool) (fun _ => Unit) (fun _ => Unit) (fun _ => Unit) (fun _ => Unit) (fun _ => Unit) (fun b => some b) (fun _ _ => none) (fun _ => none) (none) (none) (none) (none) (none) (fun _ _ _ => none) (fun _ _ => none) (fun t => boolOf (.d (.raw t))) (()) (fun _ _ _ _ => ()) (()) (fun _ _ _ _ => ()) (()) (fun _ _ _ _ => ()) (fun _ _ _ _ => ()) (fun _ _ _ => ())
def boolQ : FV → Option Bool := @FV.rec (fun _ => Option Bool) (fun _ => Unit) (none) (boolT) (fun _ _ _ => none) (fun _ _ => none) (fun _ _ _ _ => none) (fun _ => none) (fun _ _ _ => none) (fun _ _ => none) (fun _ _ => none) (fun _ => none) (fun _ _ => none) (none) (none) (fun v => boolOf (.raw v)) () (fun _ _ _ _ => ())
theorem boolQ_eq (v : FV) : boolQ v = boolOf v := by
  cases v with
  | d t => cases t <;> rfl
  | _ => rfl
def eqB (b want : Bool) : Bool := Bool.rec (motive := fun _ => Bool) (Bool.rec (motive := fun _ => Bool) true false want) want b
theorem eqB_eq (b want : Bool) : eqB b want = (b == want) := by cases b <;> cases want <;> rfl
def wantV (v : Option FV) (want : Bool) : Bool := @Option.rec FV (fun _ => Bool → Bool) (fun _ => false) (fun v want => @Option.rec Bool (fun _ => Bool → Bool) (fun _ => false) eqB (boolQ v) want) v want
theorem wantV_eq (t : Nat) (want : Bool) (tm : Tr FV) : wantV (vGet (pq t) tm) want = wantedK (some (t, want)) tm := by
  rw [vGet_eq]
  show _ = (match kTget tm t with | some v => (match boolOf v with | some b => b == want | none => false) | none => false)
  cases kTget tm t with
  | none => rfl
  | some v =>
    show @Option.rec Bool (fun _ => Bool → Bool) (fun _ => false) eqB (boolQ v) want = _
    rw [boolQ_eq]
    simp only
    cases boolOf v with
    | none => rfl
    | some b => exact eqB_eq b want

def selT : FT → FV → FV → Option FV := @FT.rec (fun _ => FV → FV → Option FV) (fun _ => Unit) (fun _ => Unit) (fun _ => Unit) (fun _ => Unit) (fun _ => Unit) (fun t a b => Bool.rec (motive := fun _ => Option FV) (some b) (some a) t) (fun _ _ _ _ => none) (fun _ _ _ => none) (fun _ _ => none) (fun _ _ => none) (fun _ _ => none) (fun _ _ => none) (fun _ _ => none) (fun _ _ _ _ _ => none) (fun _ _ _ _ => none) (fun _ _ _ => none) (()) (fun _ _ _ _ => ()) (()) (fun _ _ _ _ => ()) (()) (fun _ _ _ _ => ()) (fun _ _ _ _ => ()) (fun _ _ _ => ())
def selQ : FV → FV → FV → Option FV := @FV.rec (fun _ => FV → FV → Option FV) (fun _ => Unit) (fun _ _ => none) (selT) (fun _ _ _ _ _ => none) (fun _ _ _ _ => none) (fun _ _ _ _ _ _ => none) (fun _ _ _ => none) (fun _ _ _ _ _ => none) (fun _ _ _ _ => none) (fun _ _ _ _ => none) (fun _ _ _ => none) (fun _ _ _ _ => none) (fun _ _ => none) (fun _ _ => none) (fun _ _ _ => none) () (fun _ _ _ _ => ())
theorem selQ_eq (c a b : FV) : selQ c a b = selF c a b := by
  cases c with
  | d t =>
    cases t with
    | bool t => cases t <;> rfl
    | _ => rfl
  | _ => rfl
def nncQ : FV → Option FV := @FV.rec (fun _ => Option FV) (fun _ => Unit) (none) (fun _ => none) (fun b i j => some (.ptr b i j)) (fun cs j => some (.iptr cs j)) (fun _ _ _ _ => none) (fun _ => none) (fun _ _ _ => none) (fun _ _ => none) (fun _ _ => none) (fun _ => none) (fun _ _ => none) (none) (none) (fun _ => none) () (fun _ _ _ _ => ())
theorem nncQ_eq (v : FV) : nncQ v = notNilF v := by cases v <;> rfl
def notT : FT → Option FV := @FT.rec (fun _ => Option FV) (fun _ => Unit) (fun _ => Unit) (fun _ => Unit) (fun _ => Unit) (fun _ => Unit) (fun b => Bool.rec (motive := fun _ => Option FV) (some (.d (.bool true))) (some (.d (.bool false))) b) (fun _ _ => none) (fun _ => none) (none) (none) (none) (none) (none) (fun _ _ _ => none) (fun _ _ => none) (fun _ => none) (()) (fun _ _ _ _ => ()) (()) (fun _ _ _ _ => ()) (()) (fun _ _ _ _ => ()) (fun _ _ _ _ => ()) (fun _ _ _ => ())
def notQ : FV → Option FV := @FV.rec (fun _ => Option FV) (fun _ => Unit) (none) (notT) (fun _ _ _ => none) (fun _ _ => none) (fun _ _ _ _ => none) (fun _ => none) (fun _ _ _ => none) (fun _ _ => none) (fun _ _ => none) (fun _ => none) (fun _ _ => none) (none) (none) (fun _ => none) () (fun _ _ _ _ => ())
theorem notQ_eq (fc : Facts) (v : FV) : notQ v = unF fc .not v := by
  cases v with
  | d t =>
    cases t with
    | bool t => cases t <;> rfl
    | _ => rfl
  | _ => rfl
def notS (xf : TmF) (pf : PutF) (_ : Facts) (_ : Tbl) (_ : FCaller) (_ : Nat) (tm : Tr FV) (sz : Nat) (hp : FHeap) (nx : Nat) : Option FSt := keepQ (notQ (xf.f tm)) pf tm sz hp nx
def moveS (xf : TmF) (pf : PutF) (_ : Facts) (_ : Tbl) (_ : FCaller) (_ : Nat) (tm : Tr FV) (sz : Nat) (hp : FHeap) (nx : Nat) : Option FSt := pf.f tm sz hp nx (xf.f tm)
def allocS (es : List FV) (pf : PutF) (_ : Facts) (_ : Tbl) (_ : FCaller) (fr : Nat) (tm : Tr FV) (sz : Nat) (hp : FHeap) (nx : Nat) : Option FSt := pf.f tm sz (hPut (some (.row [es])) (pq fr) hp) nx (.ptr fr 0 0)
def boxS (xf : TmF) (pf : PutF) (_ : Facts) (_ : Tbl) (_ : FCaller) (fr : Nat) (tm : Tr FV) (sz : Nat) (hp : FHeap) (nx : Nat) : Option FSt :=
  Bool.rec (motive := fun _ => Option FSt) none (pf.f tm sz (hPut (some (.row [cellsQ (xf.f tm)])) (pq fr) hp) nx (.ptr fr 0 0)) (allOne (cellsQ (xf.f tm)))
def selS (cf af bf : TmF) (pf : PutF) (_ : Facts) (_ : Tbl) (_ : FCaller) (_ : Nat) (tm : Tr FV) (sz : Nat) (hp : FHeap) (nx : Nat) : Option FSt := keepQ (selQ (cf.f tm) (af.f tm) (bf.f tm)) pf tm sz hp nx
def nncS (xf : TmF) (pf : PutF) (_ : Facts) (_ : Tbl) (_ : FCaller) (_ : Nat) (tm : Tr FV) (sz : Nat) (hp : FHeap) (nx : Nat) : Option FSt := keepQ (nncQ (xf.f tm)) pf tm sz hp nx
def unS (op : UnOp) (xf : TmF) (pf : PutF) (fc : Facts) (_ : Tbl) (_ : FCaller) (_ : Nat) (tm : Tr FV) (sz : Nat) (hp : FHeap) (nx : Nat) : Option FSt := keepQ (unF fc op (xf.f tm)) pf tm sz hp nx
def extS (ix : Nat) (xf : TmF) (pf : PutF) (_ : Facts) (_ : Tbl) (_ : FCaller) (_ : Nat) (tm : Tr FV) (sz : Nat) (hp : FHeap) (nx : Nat) : Option FSt := keepQ (extractF ix (xf.f tm)) pf tm sz hp nx
def appS (esz bytes : Nat) (xf yf : TmF) (pf : PutF) (_ : Facts) (_ : Tbl) (_ : FCaller) (fr : Nat) (tm : Tr FV) (sz : Nat) (hp : FHeap) (nx : Nat) : Option FSt := bothQ (appQ esz bytes hp (xf.f tm) (yf.f tm) fr) pf tm sz nx
def lookS (kk : KK) (zero : FV) (ok : Bool) (xf yf : TmF) (pf : PutF) (fc : Facts) (_ : Tbl) (_ : FCaller) (_ : Nat) (tm : Tr FV) (sz : Nat) (hp : FHeap) (nx : Nat) : Option FSt := keepQ (lookupK fc kk hp zero ok (xf.f tm) (yf.f tm)) pf tm sz hp nx
def mupS (kk : KK) (xf yf zf : TmF) (pf : PutF) (fc : Facts) (_ : Tbl) (_ : FCaller) (_ : Nat) (tm : Tr FV) (sz : Nat) (hp : FHeap) (nx : Nat) : Option FSt := setQ (mapUpdateK fc kk hp (xf.f tm) (yf.f tm) (zf.f tm)) pf tm sz nx

/-! Calls. -/

def argsQ (tm : Tr FV) : List DOpnd → List FV := @List.rec DOpnd (fun _ => List FV) [] (fun x _ ih => (compX x).f tm :: ih)

theorem argsQ_eq (tm : Tr FV) : ∀ l, argsQ tm l = kmap (opndK tm) l
  | [] => rfl
  | x :: l => by
    show (compX x).f tm :: argsQ tm l = opndK tm x :: kmap (opndK tm) l
    rw [compX_eq, argsQ_eq tm l]

def retH : FHeap × Nat → FV → PutF → Tr FV → Nat → Option FSt := @Prod.rec FHeap Nat (fun _ => FV → PutF → Tr FV → Nat → Option FSt) (fun hp nx v pf tm sz => pf.f tm sz hp nx v)
def retP : FV × FHeap × Nat → PutF → Tr FV → Nat → Option FSt := @Prod.rec FV (FHeap × Nat) (fun _ => PutF → Tr FV → Nat → Option FSt) (fun v q pf tm sz => retH q v pf tm sz)
def retQ (r : Option (FV × FHeap × Nat)) (pf : PutF) (tm : Tr FV) (sz : Nat) : Option FSt := @Option.rec (FV × FHeap × Nat) (fun _ => PutF → Tr FV → Nat → Option FSt) (fun _ _ _ => none) retP r pf tm sz

def closedQ : FV → Bool := @FV.rec (fun _ => Bool) (fun _ => Unit) (false) (fun _ => true) (fun _ _ _ => false) (fun _ _ => false) (fun _ _ _ _ => false) (fun _ => false) (fun _ _ _ => false) (fun c _ => FV.closed (.agg c)) (fun _ _ => false) (fun _ => false) (fun _ _ => false) (false) (false) (fun v => FV.closed (.raw v)) () (fun _ _ _ _ => ())
theorem closedQ_eq (v : FV) : closedQ v = FV.closed v := by cases v <;> rfl
def allClosed : List FV → Bool := @List.rec FV (fun _ => Bool) true (fun x _ ih => Bool.rec (motive := fun _ => Bool) false ih (closedQ x))
theorem allClosed_eq : ∀ l, allClosed l = kall FV.closed l
  | [] => rfl
  | x :: l => by
    show Bool.rec (motive := fun _ => Bool) false (allClosed l) (closedQ x) = (bif FV.closed x then kall FV.closed l else false)
    rw [allClosed_eq l, closedQ_eq]
    cases FV.closed x <;> rfl

def freezeQ : FV → FHeap → Option FV := @FV.rec (fun _ => FHeap → Option FV) (fun _ => Unit) (fun h => freezeVK h .undef) (fun t _ => some (.d t)) (fun b i j h => freezeVK h (.ptr b i j)) (fun c j h => freezeVK h (.iptr c j)) (fun b o l z h => freezeVK h (.sl b o l z)) (fun b h => freezeVK h (.map b)) (fun f c _ h => freezeVK h (.fn f c)) (fun c _ h => freezeVK h (.agg c)) (fun c _ h => freezeVK h (.tup c)) (fun b h => freezeVK h (.yield b)) (fun b m h => freezeVK h (.it b m)) (fun h => freezeVK h .emp) (fun h => freezeVK h .opq) (fun v h => freezeVK h (.raw v)) () (fun _ _ _ _ => ())
theorem freezeQ_eq (v : FV) (h : FHeap) : freezeQ v h = freezeVK h v := by cases v <;> rfl
def frozenH : FHeap × Nat → FV → Option FV := @Prod.rec FHeap Nat (fun _ => FV → Option FV) (fun h _ v => freezeQ v h)
def frozenP : FV × FHeap × Nat → Option FV := @Prod.rec FV (FHeap × Nat) (fun _ => Option FV) (fun v q => frozenH q v)
def frozenQ (r : Option (FV × FHeap × Nat)) : Option FV := @Option.rec (FV × FHeap × Nat) (fun _ => Option FV) none frozenP r
def tbQ (f : Nat) (args : List FV) : Tbl → Option FV :=
  @List.rec (Nat × List FV × FV) (fun _ => Option FV) none (fun e _ ih => Bool.rec (motive := fun _ => Option FV) ih (Bool.rec (motive := fun _ => Option FV) ih (some e.2.2) (listEq FV.eqv e.2.1 args)) (Nat.beq e.1 f))
theorem tbQ_eq (f : Nat) (args : List FV) : ∀ tb, tbQ f args tb = tbFind tb f args
  | [] => rfl
  | (g, as, r) :: rest => by
    show Bool.rec (motive := fun _ => Option FV) (tbQ f args rest) (Bool.rec (motive := fun _ => Option FV) (tbQ f args rest) (some r) (listEq FV.eqv as args)) (Nat.beq g f) = (if (Nat.beq g f && listEq FV.eqv as args) = true then some r else tbFind rest f args)
    rw [tbQ_eq f args rest]
    cases Nat.beq g f <;> cases listEq FV.eqv as args <;> rfl
def pcallQ (tb : Tbl) (cl : FCaller) (f : Nat) (args : List FV) : Option FV :=
  @Option.rec FV (fun _ => FCaller → Nat → List FV → Option FV) (fun cl f args => frozenQ (cl (.fn f) args .nil 0)) (fun r _ _ _ => some r) (tbQ f args tb) cl f args
theorem pcallQ_eq (tb : Tbl) (cl : FCaller) (f : Nat) (args : List FV) : pcallQ tb cl f args = pcallK tb cl f args := by
  unfold pcallQ pcallK
  rw [tbQ_eq]
  cases tbFind tb f args with
  | some r => rfl
  | none =>
    show frozenQ (cl (.fn f) args .nil 0) = _
    cases cl (.fn f) args .nil 0 with
    | none => rfl
    | some r => exact freezeQ_eq _ _
def cpureQ (tb : Tbl) (cl : FCaller) (mode : Nat) (h : FHeap) (f : Nat) (args : List FV) : Option FV :=
  Bool.rec (motive := fun _ => Option FV) (callPureK tb cl mode h f args) (pcallQ tb cl f args) (allClosed args)
theorem cpureQ_eq (tb : Tbl) (cl : FCaller) (mode : Nat) (h : FHeap) (f : Nat) (args : List FV) : cpureQ tb cl mode h f args = callPureK tb cl mode h f args := by
  unfold cpureQ
  rw [allClosed_eq, pcallQ_eq]
  cases hc : kall FV.closed args with
  | false => rfl
  | true => simp only [callPureK, hc]; rfl

def callS (f : Nat) (args : List DOpnd) (pf : PutF) (_ : Facts) (_ : Tbl) (cl : FCaller) (_ : Nat) (tm : Tr FV) (sz : Nat) (hp : FHeap) (nx : Nat) : Option FSt := retQ (cl (.fn f) (argsQ tm args) hp nx) pf tm sz
def pureS (mode f : Nat) (args : List DOpnd) (pf : PutF) (_ : Facts) (tb : Tbl) (cl : FCaller) (_ : Nat) (tm : Tr FV) (sz : Nat) (hp : FHeap) (nx : Nat) : Option FSt := keepQ (cpureQ tb cl mode hp f (argsQ tm args)) pf tm sz hp nx
def deepS (op : DOp) (dst : Option Nat) (fc : Facts) (tb : Tbl) (cl : FCaller) (fr : Nat) (tm : Tr FV) (sz : Nat) (hp : FHeap) (nx : Nat) : Option FSt := opStepK op fc tb cl fr dst ⟨tm, sz, hp, nx⟩
def callvV : FV → List FV → FCaller → PutF → Tr FV → Nat → FHeap → Nat → Option FSt := @FV.rec (fun _ => List FV → FCaller → PutF → Tr FV → Nat → FHeap → Nat → Option FSt) (fun _ => Unit) (fun _ _ _ _ _ _ _ => none) (fun _ _ _ _ _ _ _ _ => none) (fun _ _ _ _ _ _ _ _ _ _ => none) (fun _ _ _ _ _ _ _ _ _ => none) (fun _ _ _ _ _ _ _ _ _ _ _ => none) (fun _ _ _ _ _ _ _ _ => none) (fun f caps _ args cl pf tm sz hp nx => retQ (cl (.fn f) (vapp args caps) hp nx) pf tm sz) (fun _ _ _ _ _ _ _ _ _ => none) (fun _ _ _ _ _ _ _ _ _ => none) (fun b args cl pf tm sz hp nx => retQ (cl (.yd b) args hp nx) pf tm sz) (fun _ _ _ _ _ _ _ _ _ => none) (fun _ _ _ _ _ _ _ => none) (fun _ _ _ _ _ _ _ => none) (fun _ _ _ _ _ _ _ _ => none) () (fun _ _ _ _ => ())
def callvS (x : DOpnd) (args : List DOpnd) (pf : PutF) (_ : Facts) (_ : Tbl) (cl : FCaller) (_ : Nat) (tm : Tr FV) (sz : Nat) (hp : FHeap) (nx : Nat) : Option FSt := callvV ((compX x).f tm) (argsQ tm args) cl pf tm sz hp nx
def compC (mode f : Nat) (args : List DOpnd) (pf : PutF) : StF := Nat.rec (motive := fun _ => StF) (.mk (callS f args pf)) (fun m _ => .mk (pureS (Nat.succ m) f args pf)) mode

def compU : UnOp → DOpnd → PutF → StF := @UnOp.rec (fun _ => DOpnd → PutF → StF) (fun x pf => .mk (unS .neg (compX x) pf)) (fun x pf => .mk (unS .xor (compX x) pf)) (fun x pf => .mk (notS (compX x) pf)) (fun x pf => .mk (unS .plus (compX x) pf))
def compL : LK → DOpnd → Option Nat → StF := @LK.rec (fun _ => DOpnd → Option Nat → StF) (fun n x dst => .mk (deepS (.len (.arr n) x) dst)) (fun x dst => .mk (deepS (.len .str x) dst)) (fun x dst => .mk (lenS (compX x) (compP dst))) (fun x dst => .mk (deepS (.len .map x) dst))

def compO : DOp → Option Nat → StF :=
  @DOp.rec (fun _ => Option Nat → StF)
    (fun x dst => .mk (moveS (compX x) (compP dst)))
    (fun c a b dst => .mk (selS (compX c) (compX a) (compX b) (compP dst)))
    (fun zero dst => .mk (allocS (kmap lift0 zero) (compP dst)))
    (fun x dst => .mk (boxS (compX x) (compP dst)))
    (fun zero parts dst => .mk (buildS (kmap lift0 zero) parts (compP dst)))
    (fun esz len zero parts dst => .mk (buildSlS esz len (krep len (kmap lift0 zero)) parts (compP dst)))
    (fun n a dst => .mk (loadS (compA n) (compX a) (compP dst)))
    (fun n a x dst => .mk (storeS (compF n) (compX a) (compX x) (compP dst)))
    (fun x dst => .mk (nncS (compX x) (compP dst)))
    (fun op kd x y dst => compB kd op x y (compP dst))
    (fun op x dst => compU op x (compP dst))
    (fun k x dst => .mk (deepS (.conv k x) dst))
    (fun r dst => .mk (deepS (.makeMap r) dst))
    (fun esz bytes zero len cap dst => .mk (deepS (.makeSlice esz bytes zero len cap) dst))
    (fun esz x lo hi dst => .mk (deepS (.slice esz x lo hi) dst))
    (fun off x dst => .mk (fieldS off (compX x) (compP dst)))
    (fun off n x dst => .mk (fieldOfS off (compA n) (compX x) (compP dst)))
    (fun arr esz x ix dst => .mk (ixS arr esz (compX x) (compX ix) (compP dst)))
    (fun arr x ix dst => .mk (deepS (.index arr x ix) dst))
    (fun kk zero ok m k dst => .mk (lookS kk (liftV zero) ok (compX m) (compX k) (compP dst)))
    (fun kk m k x dst => .mk (mupS kk (compX m) (compX k) (compX x) (compP dst)))
    (fun x ix dst => .mk (extS ix (compX x) (compP dst)))
    (fun k x dst => compL k x dst)
    (fun mx x y dst => .mk (deepS (.minmax mx x y) dst))
    (fun esz bytes zero s x dst => .mk (appS esz bytes (compX s) (compX x) (compP dst)))
    (fun mode f args dst => compC mode f args (compP dst))
    (fun x args dst => .mk (callvS x args (compP dst)))
    (fun f caps dst => .mk (deepS (.makeFunc f caps) dst))
    (fun x dst => .mk (deepS (.range x) dst))
    (fun x dst => .mk (deepS (.next x) dst))
    (fun x dst => .mk (deepS (.entry x) dst))
    (fun n x lo hi dst => .mk (deepS (.cutArr n x lo hi) dst))
    (fun dst => .mk (deepS (.fail) dst))

theorem afterK_eq (fc : Facts) (tb : Tbl) (cl : FCaller) (fr : Nat) (dst : Option Nat) (s : FSt) (op : DOp) (h : opStepK op fc tb cl fr dst s = afterK s dst (evalK op fc (opndK s.tm) s.hp fr)) {x : Option FSt} (e : x = afterK s dst (evalK op fc (opndK s.tm) s.hp fr)) : x = opStepK op fc tb cl fr dst s := e.trans h.symm

theorem compO_eq (op : DOp) (dst : Option Nat) (fc : Facts) (tb : Tbl) (cl : FCaller) (fr : Nat) (tm : Tr FV) (sz : Nat) (hp : FHeap) (nx : Nat) : (compO op dst).f fc tb cl fr tm sz hp nx = opStepK op fc tb cl fr dst ⟨tm, sz, hp, nx⟩ := by
  cases op with
  | move x =>
    refine afterK_eq _ _ _ _ _ _ _ rfl ?_
    show (compP dst).f tm sz hp nx ((compX x).f tm) = _
    rw [compP_eq, compX_eq]; rfl
  | pick c a b =>
    refine afterK_eq _ _ _ _ _ _ _ rfl ?_
    show keepQ (selQ ((compX c).f tm) ((compX a).f tm) ((compX b).f tm)) (compP dst) tm sz hp nx = _
    rw [keepQ_eq, selQ_eq, compX_eq, compX_eq, compX_eq, keepK_eq]; rfl
  | alloc zero =>
    refine afterK_eq _ _ _ _ _ _ _ rfl ?_
    show (compP dst).f tm sz (hPut (some (.row [kmap lift0 zero])) (pq fr) hp) nx (.ptr fr 0 0) = _
    rw [compP_eq, hPut_eq]; rfl
  | box x =>
    refine afterK_eq _ _ _ _ _ _ _ rfl ?_
    show Bool.rec (motive := fun _ => Option FSt) none ((compP dst).f tm sz (hPut (some (.row [cellsQ ((compX x).f tm)])) (pq fr) hp) nx (.ptr fr 0 0)) (allOne (cellsQ ((compX x).f tm))) = _
    rw [compP_eq, hPut_eq, compX_eq, cellsQ_eq, allOne_eq]
    show _ = afterK ⟨tm, sz, hp, nx⟩ dst (bif kall FV.one (cellsK (opndK tm x)) then some (.ptr fr 0 0, kTput hp fr (some (.row [cellsK (opndK tm x)]))) else none)
    cases kall FV.one (cellsK (opndK tm x)) <;> rfl
  | load n a =>
    refine afterK_eq _ _ _ _ _ _ _ rfl ?_
    show keepQ (loadQ ((compX a).f tm) (compA n) hp) (compP dst) tm sz hp nx = _
    rw [keepQ_eq, loadQ_eq, compX_eq]; rfl
  | store n a x =>
    refine afterK_eq _ _ _ _ _ _ _ rfl ?_
    show setQ (storeQ ((compX a).f tm) (compF n) hp ((compX x).f tm)) (compP dst) tm sz nx = _
    rw [setQ_eq dst tm sz hp nx, storeQ_eq, compX_eq, compX_eq]; rfl
  | nilCheck x =>
    refine afterK_eq _ _ _ _ _ _ _ rfl ?_
    show keepQ (nncQ ((compX x).f tm)) (compP dst) tm sz hp nx = _
    rw [keepQ_eq, nncQ_eq, compX_eq, keepK_eq]; rfl
  | bin op kd x y => exact afterK_eq _ _ _ _ _ _ _ rfl (compB_eq kd op x y dst fc tb cl fr tm sz hp nx)
  | un op x =>
    refine afterK_eq _ _ _ _ _ _ _ rfl ?_
    cases op with
    | not =>
      show keepQ (notQ ((compX x).f tm)) (compP dst) tm sz hp nx = _
      rw [keepQ_eq, notQ_eq fc, compX_eq, keepK_eq]; rfl
    | neg =>
      show keepQ (unF fc .neg ((compX x).f tm)) (compP dst) tm sz hp nx = _
      rw [keepQ_eq, compX_eq, keepK_eq]; rfl
    | xor =>
      show keepQ (unF fc .xor ((compX x).f tm)) (compP dst) tm sz hp nx = _
      rw [keepQ_eq, compX_eq, keepK_eq]; rfl
    | plus =>
      show keepQ (unF fc .plus ((compX x).f tm)) (compP dst) tm sz hp nx = _
      rw [keepQ_eq, compX_eq, keepK_eq]; rfl
  | fieldAddr off x =>
    refine afterK_eq _ _ _ _ _ _ _ rfl ?_
    show keepQ (fieldQ ((compX x).f tm) off) (compP dst) tm sz hp nx = _
    rw [keepQ_eq, fieldQ_eq, compX_eq]; rfl
  | field off n x =>
    refine afterK_eq _ _ _ _ _ _ _ rfl ?_
    show keepQ (fieldOfQ off ((compX x).f tm) (compA n)) (compP dst) tm sz hp nx = _
    rw [keepQ_eq, fieldOfQ_eq, compX_eq]; rfl
  | indexAddr arr esz x ix =>
    refine afterK_eq _ _ _ _ _ _ _ rfl ?_
    show keepQ (ixQ arr esz ((compX x).f tm) ((compX ix).f tm)) (compP dst) tm sz hp nx = _
    rw [keepQ_eq, ixQ_eq, compX_eq, compX_eq]; rfl
  | lookup kk zero ok m k =>
    refine afterK_eq _ _ _ _ _ _ _ rfl ?_
    show keepQ (lookupK fc kk hp (liftV zero) ok ((compX m).f tm) ((compX k).f tm)) (compP dst) tm sz hp nx = _
    rw [keepQ_eq, compX_eq, compX_eq]; rfl
  | mapUpdate kk m k x =>
    refine afterK_eq _ _ _ _ _ _ _ rfl ?_
    show setQ (mapUpdateK fc kk hp ((compX m).f tm) ((compX k).f tm) ((compX x).f tm)) (compP dst) tm sz nx = _
    rw [setQ_eq dst tm sz hp nx, compX_eq, compX_eq, compX_eq]; rfl
  | extract x ix =>
    refine afterK_eq _ _ _ _ _ _ _ rfl ?_
    show keepQ (extractF ix ((compX x).f tm)) (compP dst) tm sz hp nx = _
    rw [keepQ_eq, compX_eq, keepK_eq]; rfl
  | len k x =>
    cases k with
    | slc =>
      refine afterK_eq _ _ _ _ _ _ _ rfl ?_
      show keepQ (lenV ((compX x).f tm)) (compP dst) tm sz hp nx = _
      rw [keepQ_eq, lenV_eq hp, compX_eq]; rfl
    | _ => rfl
  | call mode f args =>
    cases mode with
    | zero =>
      show retQ (cl (.fn f) (argsQ tm args) hp nx) (compP dst) tm sz = (match cl (.fn f) (kmap (opndK tm) args) hp nx with | some (v, h, n) => putK ⟨tm, sz, h, n⟩ dst v | none => none)
      rw [argsQ_eq]
      cases cl (.fn f) (kmap (opndK tm) args) hp nx with
      | none => rfl
      | some r => exact compP_eq _ _ _ _ _ _
    | succ m =>
      show keepQ (cpureQ tb cl (m + 1) hp f (argsQ tm args)) (compP dst) tm sz hp nx = (match callPureK tb cl (m + 1) hp f (kmap (opndK tm) args) with | some v => putK ⟨tm, sz, hp, nx⟩ dst v | none => none)
      rw [argsQ_eq, cpureQ_eq]
      cases callPureK tb cl (m + 1) hp f (kmap (opndK tm) args) with
      | none => rfl
      | some r => exact compP_eq _ _ _ _ _ _
  | callv x args =>
    show callvV ((compX x).f tm) (argsQ tm args) cl (compP dst) tm sz hp nx = (match opndK tm x with
      | .fn f caps =>
        (match cl (.fn f) (kapp (kmap (opndK tm) args) caps) hp nx with
        | some (v, h, n) => putK (⟨tm, sz, h, n⟩ : FSt) dst v
        | none => none)
      | .yield b =>
        (match cl (.yd b) (kmap (opndK tm) args) hp nx with
        | some (v, h, n) => putK (⟨tm, sz, h, n⟩ : FSt) dst v
        | none => none)
      | _ => none)
    rw [compX_eq, argsQ_eq]
    cases opndK tm x with
    | fn f caps =>
      show retQ (cl (.fn f) (vapp (kmap (opndK tm) args) caps) hp nx) (compP dst) tm sz = _
      rw [vapp_eq]
      simp only
      cases cl (.fn f) (kapp (kmap (opndK tm) args) caps) hp nx with
      | none => rfl
      | some r => exact compP_eq _ _ _ _ _ _
    | yield b =>
      show retQ (cl (.yd b) (kmap (opndK tm) args) hp nx) (compP dst) tm sz = _
      simp only
      cases cl (.yd b) (kmap (opndK tm) args) hp nx with
      | none => rfl
      | some r => exact compP_eq _ _ _ _ _ _
    | _ => rfl
  | append esz bytes zero x y =>
    refine afterK_eq _ _ _ _ _ _ _ rfl ?_
    show bothQ (appQ esz bytes hp ((compX x).f tm) ((compX y).f tm) fr) (compP dst) tm sz nx = _
    rw [bothQ_eq dst tm sz hp nx, appQ_eq, compX_eq, compX_eq]; rfl
  | build zero parts =>
    refine afterK_eq _ _ _ _ _ _ _ rfl ?_
    show keepQ (aggO (fillQ tm parts (kmap lift0 zero))) (compP dst) tm sz hp nx = _
    rw [keepQ_eq, fillQ_eq]
    show _ = afterK ⟨tm, sz, hp, nx⟩ dst (match fillK (opndK tm) parts (kmap lift0 zero) with | some cs => some (.agg cs, hp) | none => none)
    cases fillK (opndK tm) parts (kmap lift0 zero) <;> rfl
  | buildSlice esz len zero parts =>
    refine afterK_eq _ _ _ _ _ _ _ rfl ?_
    show bothQ (rowO fr len esz hp (fillRowsQ tm esz parts (krep len (kmap lift0 zero)))) (compP dst) tm sz nx = _
    rw [bothQ_eq dst tm sz hp nx, fillRowsQ_eq]
    show _ = afterK ⟨tm, sz, hp, nx⟩ dst (match fillRowsK (opndK tm) esz parts (krep len (kmap lift0 zero)) with | some es => some (.sl fr 0 len esz, kTput hp fr (some (.row es))) | none => none)
    cases fillRowsK (opndK tm) esz parts (krep len (kmap lift0 zero)) with
    | none => rfl
    | some es =>
      show afterK ⟨tm, sz, hp, nx⟩ dst (some (.sl fr 0 len esz, hPut (some (.row es)) (pq fr) hp)) = _
      rw [hPut_eq]
  | _ => rfl

/-! ### Steps, lists of steps, code -/

def guardS (p : Pa) (want : Bool) (a : StF) (pf : PutF) (fc : Facts) (tb : Tbl) (cl : FCaller) (fr : Nat) (tm : Tr FV) (sz : Nat) (hp : FHeap) (nx : Nat) : Option FSt :=
  Bool.rec (motive := fun _ => Option FSt) (pf.f tm sz hp nx .undef) (a.f fc tb cl fr tm sz hp nx) (wantV (vGet p tm) want)
def compGP : Nat × Bool → StF → PutF → StF := @Prod.rec Nat Bool (fun _ => StF → PutF → StF) (fun t want a pf => .mk (guardS (pq t) want a pf))
def compG (g : Option (Nat × Bool)) (a : StF) (pf : PutF) : StF := @Option.rec (Nat × Bool) (fun _ => StF → PutF → StF) (fun a _ => a) compGP g a pf
def compS : DOper → StF := @DOper.rec (fun _ => StF) (fun dst op g => compG g (compO op dst) (compP dst))

theorem compS_eq (o : DOper) (fc : Facts) (tb : Tbl) (cl : FCaller) (fr : Nat) (tm : Tr FV) (sz : Nat) (hp : FHeap) (nx : Nat) : (compS o).f fc tb cl fr tm sz hp nx = stepK fc tb cl fr o ⟨tm, sz, hp, nx⟩ := by
  obtain ⟨dst, op, g⟩ := o
  cases g with
  | none => exact compO_eq op dst fc tb cl fr tm sz hp nx
  | some g =>
    obtain ⟨t, want⟩ := g
    show Bool.rec (motive := fun _ => Option FSt) ((compP dst).f tm sz hp nx .undef) ((compO op dst).f fc tb cl fr tm sz hp nx) (wantV (vGet (pq t) tm) want) = (bif wantedK (some (t, want)) tm then opStepK op fc tb cl fr dst ⟨tm, sz, hp, nx⟩ else putK ⟨tm, sz, hp, nx⟩ dst .undef)
    rw [compP_eq, compO_eq, wantV_eq]
    cases wantedK (some (t, want)) tm <;> rfl

def onS : FSt → StF → Facts → Tbl → FCaller → Nat → Option FSt := @FSt.rec (fun _ => StF → Facts → Tbl → FCaller → Nat → Option FSt) (fun tm sz hp nx b fc tb cl base => b.f fc tb cl base tm sz hp nx)
def nextS (r : Option FSt) (b : StF) (fc : Facts) (tb : Tbl) (cl : FCaller) (base : Nat) : Option FSt := @Option.rec FSt (fun _ => StF → Facts → Tbl → FCaller → Nat → Option FSt) (fun _ _ _ _ _ => none) onS r b fc tb cl base
def chainS (a b : StF) (fc : Facts) (tb : Tbl) (cl : FCaller) (base : Nat) (tm : Tr FV) (sz : Nat) (hp : FHeap) (nx : Nat) : Option FSt := nextS (a.f fc tb cl base tm sz hp nx) b fc tb cl (Nat.succ base)
def doneS (_ : Facts) (_ : Tbl) (_ : FCaller) (_ : Nat) (tm : Tr FV) (sz : Nat) (hp : FHeap) (nx : Nat) : Option FSt := some ⟨tm, sz, hp, nx⟩
def compOps : List DOper → StF := @List.rec DOper (fun _ => StF) (.mk doneS) (fun o _ ih => .mk (chainS (compS o) ih))

theorem compOps_eq (fc : Facts) (tb : Tbl) (cl : FCaller) : ∀ (l : List DOper) (base : Nat) (tm : Tr FV) (sz : Nat) (hp : FHeap) (nx : Nat), (compOps l).f fc tb cl base tm sz hp nx = runOpsK fc tb cl l base ⟨tm, sz, hp, nx⟩
  | [], _, _, _, _, _ => rfl
  | o :: l, base, tm, sz, hp, nx => by
    show nextS ((compS o).f fc tb cl base tm sz hp nx) (compOps l) fc tb cl (Nat.succ base) = Option.rec (motive := fun _ => Option FSt) none (fun s => runOpsK fc tb cl l (Nat.succ base) s) (stepK fc tb cl base o ⟨tm, sz, hp, nx⟩)
    rw [compS_eq]
    cases stepK fc tb cl base o ⟨tm, sz, hp, nx⟩ with
    | none => rfl
    | some s1 => exact compOps_eq fc tb cl l _ _ _ _ _

structure CoF where
  f : Facts → Tbl → FCaller → (FRunner → FRunner) → FRunner

def exQ : Ex → FSt → FRunner → Option (Ex × FSt) := @Ex.rec (fun _ => FSt → FRunner → Option (Ex × FSt)) (fun s k => k s) (fun i s _ => some (.exit i, s)) (fun s _ => some (.ret, s))
def thenP : Ex × FSt → FRunner → Option (Ex × FSt) := @Prod.rec Ex FSt (fun _ => FRunner → Option (Ex × FSt)) exQ
def thenQ (r : Option (Ex × FSt)) (k : FRunner) : Option (Ex × FSt) := @Option.rec (Ex × FSt) (fun _ => FRunner → Option (Ex × FSt)) (fun _ => none) thenP r k
def exB (id : Nat) : Ex → FSt → Option (Ex × FSt) := @Ex.rec (fun _ => FSt → Option (Ex × FSt)) (fun s => some (.normal, s)) (fun i s => Bool.rec (motive := fun _ => Option (Ex × FSt)) (some (.exit i, s)) (some (.normal, s)) (Nat.beq i id)) (fun s => some (.ret, s))
def leaveP : Ex × FSt → Nat → Option (Ex × FSt) := @Prod.rec Ex FSt (fun _ => Nat → Option (Ex × FSt)) (fun ex s id => exB id ex s)
def leaveQ (id : Nat) (r : Option (Ex × FSt)) : Option (Ex × FSt) := @Option.rec (Ex × FSt) (fun _ => Nat → Option (Ex × FSt)) (fun _ => none) leaveP r id
def normQ (r : Option FSt) : Option (Ex × FSt) := @Option.rec FSt (fun _ => Option (Ex × FSt)) none (fun s => some (.normal, s)) r

theorem thenQ_eq (r : Option (Ex × FSt)) (k : FRunner) : thenQ r k = (match r with | some (.normal, s) => k s | r => r) := by
  cases r with
  | none => rfl
  | some p =>
    obtain ⟨ex, s⟩ := p
    cases ex <;> rfl

def skipS (_ : Facts) (_ : Tbl) (_ : FCaller) (_ : FRunner → FRunner) (s : FSt) : Option (Ex × FSt) := some (.normal, s)
def regT : FSt → Nat → StF → Facts → Tbl → FCaller → Option (Ex × FSt) := @FSt.rec (fun _ => Nat → StF → Facts → Tbl → FCaller → Option (Ex × FSt)) (fun tm sz hp nx n a fc tb cl => normQ (a.f fc tb cl nx tm sz hp (Nat.add nx n)))
def regS (n : Nat) (a : StF) (fc : Facts) (tb : Tbl) (cl : FCaller) (_ : FRunner → FRunner) (s : FSt) : Option (Ex × FSt) := regT s n a fc tb cl
def deepC (c : DCode) (fc : Facts) (tb : Tbl) (cl : FCaller) (lp : FRunner → FRunner) (s : FSt) : Option (Ex × FSt) := execK fc tb cl lp c s
def seqS (a b : CoF) (fc : Facts) (tb : Tbl) (cl : FCaller) (lp : FRunner → FRunner) (s : FSt) : Option (Ex × FSt) := thenQ (a.f fc tb cl lp s) (b.f fc tb cl lp)

def ifT : FT → CoF → CoF → Facts → Tbl → FCaller → (FRunner → FRunner) → FRunner := @FT.rec (fun _ => CoF → CoF → Facts → Tbl → FCaller → (FRunner → FRunner) → FRunner) (fun _ => Unit) (fun _ => Unit) (fun _ => Unit) (fun _ => Unit) (fun _ => Unit) (fun t a b fc tb cl lp s => Bool.rec (motive := fun _ => Option (Ex × FSt)) (b.f fc tb cl lp s) (a.f fc tb cl lp s) t) (fun _ _ _ _ _ _ _ _ _ => none) (fun _ _ _ _ _ _ _ _ => none) (fun _ _ _ _ _ _ _ => none) (fun _ _ _ _ _ _ _ => none) (fun _ _ _ _ _ _ _ => none) (fun _ _ _ _ _ _ _ => none) (fun _ _ _ _ _ _ _ => none) (fun _ _ _ _ _ _ _ _ _ _ => none) (fun _ _ _ _ _ _ _ _ _ => none) (fun _ _ _ _ _ _ _ _ => none) (()) (fun _ _ _ _ => ()) (()) (fun _ _ _ _ => ()) (()) (fun _ _ _ _ => ()) (fun _ _ _ _ => ()) (fun _ _ _ => ())
def ifV : FV → CoF → CoF → Facts → Tbl → FCaller → (FRunner → FRunner) → FRunner := @FV.rec (fun _ => CoF → CoF → Facts → Tbl → FCaller → (FRunner → FRunner) → FRunner) (fun _ => Unit) (fun _ _ _ _ _ _ _ => none) (ifT) (fun _ _ _ _ _ _ _ _ _ _ => none) (fun _ _ _ _ _ _ _ _ _ => none) (fun _ _ _ _ _ _ _ _ _ _ _ => none) (fun _ _ _ _ _ _ _ _ => none) (fun _ _ _ _ _ _ _ _ _ _ => none) (fun _ _ _ _ _ _ _ _ _ => none) (fun _ _ _ _ _ _ _ _ _ => none) (fun _ _ _ _ _ _ _ _ => none) (fun _ _ _ _ _ _ _ _ _ => none) (fun _ _ _ _ _ _ _ => none) (fun _ _ _ _ _ _ _ => none) (fun _ _ _ _ _ _ _ _ => none) () (fun _ _ _ _ => ())
def tmOf : FSt → Tr FV := @FSt.rec (fun _ => Tr FV) (fun tm _ _ _ => tm)
def condS (xf : TmF) (a b : CoF) (fc : Facts) (tb : Tbl) (cl : FCaller) (lp : FRunner → FRunner) (s : FSt) : Option (Ex × FSt) := ifV (xf.f (tmOf s)) a b fc tb cl lp s
def blockS (id : Nat) (a : CoF) (fc : Facts) (tb : Tbl) (cl : FCaller) (lp : FRunner → FRunner) (s : FSt) : Option (Ex × FSt) := leaveQ id (a.f fc tb cl lp s)
def loopS (a : CoF) (fc : Facts) (tb : Tbl) (cl : FCaller) (lp : FRunner → FRunner) (s : FSt) : Option (Ex × FSt) := lp (a.f fc tb cl lp) s
def exitS (ex : Ex) (_ : Facts) (_ : Tbl) (_ : FCaller) (_ : FRunner → FRunner) (s : FSt) : Option (Ex × FSt) := some (ex, s)

def rangeL : LSt → Tr FV → Nat → FHeap → Nat → Option (Ex × FSt) := @LSt.rec (fun _ => Tr FV → Nat → FHeap → Nat → Option (Ex × FSt)) (fun tm sz h n => some (.normal, ⟨tm, sz, h, n⟩)) (fun _ _ _ _ => none) (fun ex tm sz h n => some (ex, ⟨tm, sz, h, n⟩))
def rangeB (x : Option FBlk) (tm : Tr FV) (sz : Nat) (h : FHeap) (n : Nat) : Option (Ex × FSt) := @Option.rec FBlk (fun _ => Tr FV → Nat → FHeap → Nat → Option (Ex × FSt)) (fun _ _ _ _ => none) (@FBlk.rec (fun _ => Tr FV → Nat → FHeap → Nat → Option (Ex × FSt)) (fun _ _ _ _ _ => none) (fun _ _ _ _ _ => none) (fun st _ _ _ _ _ tm sz h n => rangeL st tm sz h n) (fun _ _ _ _ _ _ _ => none)) x tm sz h n
def rangeH : FHeap × Nat → Tr FV → Nat → Nat → Option (Ex × FSt) := @Prod.rec FHeap Nat (fun _ => Tr FV → Nat → Nat → Option (Ex × FSt)) (fun h n tm sz nx => rangeB (hGet (pq nx) h) tm sz (hPut none (pq nx) h) n)
def rangeP : FV × FHeap × Nat → Tr FV → Nat → Nat → Option (Ex × FSt) := @Prod.rec FV (FHeap × Nat) (fun _ => Tr FV → Nat → Nat → Option (Ex × FSt)) (fun _ q tm sz nx => rangeH q tm sz nx)
def rangeR (r : Option (FV × FHeap × Nat)) (tm : Tr FV) (sz nx : Nat) : Option (Ex × FSt) := @Option.rec (FV × FHeap × Nat) (fun _ => Tr FV → Nat → Nat → Option (Ex × FSt)) (fun _ _ _ => none) rangeP r tm sz nx
def rangeV : FV → FCaller → List Nat → DCode → DCode → Tr FV → Nat → FHeap → Nat → Option (Ex × FSt) := @FV.rec (fun _ => FCaller → List Nat → DCode → DCode → Tr FV → Nat → FHeap → Nat → Option (Ex × FSt)) (fun _ => Unit) (fun _ _ _ _ _ _ _ _ => none) (fun _ _ _ _ _ _ _ _ _ => none) (fun _ _ _ _ _ _ _ _ _ _ _ => none) (fun _ _ _ _ _ _ _ _ _ _ => none) (fun _ _ _ _ _ _ _ _ _ _ _ _ => none) (fun _ _ _ _ _ _ _ _ _ => none) (fun f caps _ cl ps asg bd tm sz hp nx => rangeR (cl (.fn f) (.yield nx :: caps) (hPut (some (.loop .ready tm sz ps asg bd)) (pq nx) hp) (Nat.succ nx)) tm sz nx) (fun _ _ _ _ _ _ _ _ _ _ => none) (fun _ _ _ _ _ _ _ _ _ _ => none) (fun _ _ _ _ _ _ _ _ _ => none) (fun _ _ _ _ _ _ _ _ _ _ => none) (fun _ _ _ _ _ _ _ _ => none) (fun _ _ _ _ _ _ _ _ => none) (fun _ _ _ _ _ _ _ _ _ => none) () (fun _ _ _ _ => ())
def rangeT : FSt → TmF → FCaller → List Nat → DCode → DCode → Option (Ex × FSt) := @FSt.rec (fun _ => TmF → FCaller → List Nat → DCode → DCode → Option (Ex × FSt)) (fun tm sz hp nx xf cl ps asg bd => rangeV (xf.f tm) cl ps asg bd tm sz hp nx)
def rangeS (xf : TmF) (ps : List Nat) (asg bd : DCode) (_ : Facts) (_ : Tbl) (cl : FCaller) (_ : FRunner → FRunner) (s : FSt) : Option (Ex × FSt) := rangeT s xf cl ps asg bd

def compE : DCode → CoF :=
  @DCode.rec (fun _ => CoF) (.mk skipS) (fun ops => .mk (regS (klen ops) (compOps ops))) (fun ops chk => .mk (deepC (.regionC ops chk))) (fun _ _ a b => .mk (seqS a b)) (fun c _ _ a b => .mk (condS (compX c) a b)) (fun id _ a => .mk (blockS id a)) (fun _ a => .mk (loopS a)) (fun id => .mk (exitS (.exit id))) (.mk (exitS .ret)) (fun g ps asg bd _ _ => .mk (rangeS (compX g) ps asg bd)) (.mk (deepC .fail))

theorem compE_eq (fc : Facts) (tb : Tbl) (cl : FCaller) (lp : FRunner → FRunner) : ∀ c, (compE c).f fc tb cl lp = execK fc tb cl lp c
  | .skip => rfl
  | .region ops => by
    funext s
    show normQ ((compOps ops).f fc tb cl s.nx s.tm s.sz s.hp (Nat.add s.nx (klen ops))) = _
    rw [compOps_eq]
    rfl
  | .regionC ops chk => rfl
  | .seq a b => by
    funext s
    show thenQ ((compE a).f fc tb cl lp s) ((compE b).f fc tb cl lp) = _
    rw [compE_eq fc tb cl lp a, compE_eq fc tb cl lp b, thenQ_eq]
    rfl
  | .cond c a b => by
    funext s
    show ifV ((compX c).f s.tm) (compE a) (compE b) fc tb cl lp s = (match opndK s.tm c with | .d (.bool t) => Bool.rec (motive := fun _ => FRunner) (execK fc tb cl lp b) (execK fc tb cl lp a) t s | _ => none)
    rw [compX_eq, ← compE_eq fc tb cl lp a, ← compE_eq fc tb cl lp b]
    cases opndK s.tm c with
    | d t =>
      cases t with
      | bool t => cases t <;> rfl
      | _ => rfl
    | _ => rfl
  | .block id c => by
    funext s
    show leaveQ id ((compE c).f fc tb cl lp s) = (match execK fc tb cl lp c s with | some (.exit i, s) => bif Nat.beq i id then some (.normal, s) else some (.exit i, s) | r => r)
    rw [compE_eq fc tb cl lp c]
    cases execK fc tb cl lp c s with
    | none => rfl
    | some p =>
      obtain ⟨ex, s1⟩ := p
      cases ex with
      | exit i =>
        show Bool.rec (motive := fun _ => Option (Ex × FSt)) (some (.exit i, s1)) (some (.normal, s1)) (Nat.beq i id) = (bif Nat.beq i id then some (.normal, s1) else some (.exit i, s1))
        cases Nat.beq i id <;> rfl
      | _ => rfl
  | .loop c => by
    funext s
    show lp ((compE c).f fc tb cl lp) s = _
    rw [compE_eq fc tb cl lp c]
    rfl
  | .exit id => rfl
  | .ret => rfl
  | .rangeFunc g ps asg bd => by
    funext s
    show rangeV ((compX g).f s.tm) cl ps asg bd s.tm s.sz s.hp s.nx = (match opndK s.tm g with
      | .fn f caps =>
        (match cl (.fn f) (.yield s.nx :: caps) (kTput s.hp s.nx (some (.loop .ready s.tm s.sz ps asg bd))) (Nat.succ s.nx) with
        | some (_, h, n) =>
          (match kTget h s.nx with
          | some (.loop .ready ..) => some (.normal, { s with hp := kTput h s.nx none, nx := n })
          | some (.loop (.done ex) ..) => some (ex, { s with hp := kTput h s.nx none, nx := n })
          | _ => none)
        | none => none)
      | _ => none)
    rw [compX_eq]
    cases opndK s.tm g with
    | fn f caps =>
      show rangeR (cl (.fn f) (.yield s.nx :: caps) (hPut (some (.loop .ready s.tm s.sz ps asg bd)) (pq s.nx) s.hp) (Nat.succ s.nx)) s.tm s.sz s.nx = _
      rw [hPut_eq]
      simp only
      cases cl (.fn f) (.yield s.nx :: caps) (kTput s.hp s.nx (some (.loop .ready s.tm s.sz ps asg bd))) (Nat.succ s.nx) with
      | none => rfl
      | some r =>
        obtain ⟨v, h, n⟩ := r
        show rangeB (hGet (pq s.nx) h) s.tm s.sz (hPut none (pq s.nx) h) n = _
        rw [hGet_eq, hPut_eq]
        simp only
        cases kTget h s.nx with
        | none => rfl
        | some y =>
          cases y with
          | loop st tm sz ps asg bd => cases st <;> rfl
          | _ => rfl
    | _ => rfl
  | .fail => rfl

def loopQ (body : FRunner) (n : Nat) : FRunner := Nat.rec (motive := fun _ => FRunner) (fun _ => none) (fun _ ih s => thenQ (body s) ih) n

theorem loopQ_eq (body : FRunner) : ∀ n, loopQ body n = loopK body n
  | 0 => rfl
  | n + 1 => by
    funext s
    show thenQ (body s) (loopQ body n) = (match body s with | some (.normal, s') => loopK body n s' | r => r)
    rw [loopQ_eq body n, thenQ_eq]

def resQ (hp : FHeap) (tm : Tr FV) : DRes → Option FV := @DRes.rec (fun _ => Option FV) (fun t => some (tmpQ (pq t) tm)) (fun a n => loadQ (tmpQ (pq a) tm) (compA n) hp)
theorem resQ_eq (hp : FHeap) (tm : Tr FV) (r : DRes) : resQ hp tm r = resK hp tm r := by
  cases r with
  | tmp t =>
    show some (tmpQ (pq t) tm) = _
    rw [← compT_eq, show (compT (pq t)).f tm = (compX (.tmp t)).f tm from rfl, compX_eq]; rfl
  | cell a n =>
    show loadQ (tmpQ (pq a) tm) (compA n) hp = _
    rw [← compT_eq, show (compT (pq a)).f tm = (compX (.tmp a)).f tm from rfl, compX_eq, loadQ_eq]; rfl
def consQ (x : Option FV) (ih : Option (List FV)) : Option (List FV) := @Option.rec FV (fun _ => Option (List FV) → Option (List FV)) (fun _ => none) (fun y ih => @Option.rec (List FV) (fun _ => FV → Option (List FV)) (fun _ => none) (fun ys y => some (y :: ys)) ih y) x ih
def resL (hp : FHeap) (tm : Tr FV) : List DRes → Option (List FV) := @List.rec DRes (fun _ => Option (List FV)) (some []) (fun x _ ih => consQ (resQ hp tm x) ih)
theorem resL_eq (hp : FHeap) (tm : Tr FV) : ∀ l, resL hp tm l = kfreeze (resK hp tm) l
  | [] => rfl
  | x :: l => by
    have e1 : resL hp tm (x :: l) = consQ (resQ hp tm x) (resL hp tm l) := rfl
    rw [e1, resL_eq hp tm l, resQ_eq]
    rw [kfreeze_eq, kfreeze_eq]
    simp only [freezeList]
    cases resK hp tm x with
    | none => rfl
    | some y => cases freezeList (resK hp tm) l <;> rfl
def tup1 (v : FV) : List FV → FV := @List.rec FV (fun _ => FV) v (fun w r _ => .tup (v :: w :: r))
def tupQ : List FV → FV := @List.rec FV (fun _ => FV) (.tup []) (fun v r _ => tup1 v r)
theorem tupQ_eq (l : List FV) : tupQ l = tupF l := by
  match l with
  | [] => rfl
  | [v] => rfl
  | v :: w :: r => rfl
def giveQ (vs : Option (List FV)) (hp : FHeap) (nx : Nat) : Option (FV × FHeap × Nat) := @Option.rec (List FV) (fun _ => FHeap → Nat → Option (FV × FHeap × Nat)) (fun _ _ => none) (fun vs hp nx => some (tupQ vs, hp, nx)) vs hp nx
def finS : FSt → List DRes → Option (FV × FHeap × Nat) := @FSt.rec (fun _ => List DRes → Option (FV × FHeap × Nat)) (fun tm _ hp nx rs => giveQ (resL hp tm rs) hp nx)
def finE : Ex → FSt → List DRes → Option (FV × FHeap × Nat) := @Ex.rec (fun _ => FSt → List DRes → Option (FV × FHeap × Nat)) finS (fun _ _ _ => none) finS
def finP : Ex × FSt → List DRes → Option (FV × FHeap × Nat) := @Prod.rec Ex FSt (fun _ => List DRes → Option (FV × FHeap × Nat)) finE
def finishQ (rs : List DRes) (r : Option (Ex × FSt)) : Option (FV × FHeap × Nat) := @Option.rec (Ex × FSt) (fun _ => List DRes → Option (FV × FHeap × Nat)) (fun _ => none) finP r rs

theorem finS_eq (fn : DFunc) (s : FSt) : finS s fn.results = (match kfreeze (resK s.hp s.tm) fn.results with | some vs => some (tupF vs, s.hp, s.nx) | none => none) := by
  show giveQ (resL s.hp s.tm fn.results) s.hp s.nx = _
  rw [resL_eq]
  cases kfreeze (resK s.hp s.tm) fn.results with
  | none => rfl
  | some vs => show some (tupQ vs, s.hp, s.nx) = _; rw [tupQ_eq]

theorem finishQ_eq (fn : DFunc) (r : Option (Ex × FSt)) : finishQ fn.results r = finishK fn r := by
  cases r with
  | none => rfl
  | some p =>
    obtain ⟨ex, s⟩ := p
    cases ex with
    | exit i => rfl
    | _ => exact finS_eq fn s

def putAllQ : List FV → Nat → Tr FV → Tr FV := @List.rec FV (fun _ => Nat → Tr FV → Tr FV) (fun _ tm => tm) (fun v _ ih k tm => ih (Nat.succ k) (vPut (some v) (pq k) tm))
theorem putAllQ_eq : ∀ (vs : List FV) (k : Nat) (tm : Tr FV), putAllQ vs k tm = putAllK vs k tm
  | [], _, _ => rfl
  | v :: vs, k, tm => by
    show putAllQ vs (Nat.succ k) (vPut (some v) (pq k) tm) = putAllK vs (Nat.succ k) (kTput tm k (some v))
    rw [putAllQ_eq vs, vPut_eq]

structure FnF where
  f : Facts → Tbl → FCaller → (FRunner → FRunner) → List FV → FHeap → Nat → Option (FV × FHeap × Nat)

def bodyQ (rs : List DRes) (n : Nat) (c : CoF) (fc : Facts) (tb : Tbl) (cl : FCaller) (lp : FRunner → FRunner) (args : List FV) (hp : FHeap) (nx : Nat) : Option (FV × FHeap × Nat) :=
  Bool.rec (motive := fun _ => Option (FV × FHeap × Nat)) none (finishQ rs (c.f fc tb cl lp ⟨putAllQ args 0 .nil, n, hp, nx⟩)) (Nat.ble (vlen args) n)
def compFn1 : DFunc → FnF := @DFunc.rec (fun _ => FnF) (fun n rs body => .mk (bodyQ rs n (compE body)))
def noneQ (_ : Facts) (_ : Tbl) (_ : FCaller) (_ : FRunner → FRunner) (_ : List FV) (_ : FHeap) (_ : Nat) : Option (FV × FHeap × Nat) := none
def compFO (x : Option DFunc) : FnF := @Option.rec DFunc (fun _ => FnF) (.mk noneQ) compFn1 x

def callK (fc : Facts) (tb : Tbl) (cl : FCaller) (lp : FRunner → FRunner) (x : Option DFunc) (args : List FV) (h : FHeap) (nx : Nat) : Option (FV × FHeap × Nat) :=
  match x with
  | some fn =>
    match enterK fn args h nx with
    | some s => finishK fn (execK fc tb cl lp fn.body s)
    | none => none
  | none => none

theorem compFO_eq (fc : Facts) (tb : Tbl) (cl : FCaller) (lp : FRunner → FRunner) (x : Option DFunc) (args : List FV) (h : FHeap) (nx : Nat) : (compFO x).f fc tb cl lp args h nx = callK fc tb cl lp x args h nx := by
  cases x with
  | none => rfl
  | some fn =>
    show Bool.rec (motive := fun _ => Option (FV × FHeap × Nat)) none (finishQ fn.results ((compE fn.body).f fc tb cl lp ⟨putAllQ args 0 .nil, fn.ntmps, h, nx⟩)) (Nat.ble (vlen args) fn.ntmps) = (match (bif Nat.ble (klen args) fn.ntmps then some { tm := putAllK args 0 .nil, sz := fn.ntmps, hp := h, nx := nx } else none) with | some s => finishK fn (execK fc tb cl lp fn.body s) | none => none)
    rw [finishQ_eq, putAllQ_eq, compE_eq, vlen_eq]
    cases Nat.ble (klen args) fn.ntmps <;> rfl

/-! ### Rounds -/

def loopB (x : Option FBlk) : Option FBlk := x

def setAllQ (sz : Nat) : List Nat → List FV → Tr FV → Option (Tr FV) :=
  @List.rec Nat (fun _ => List FV → Tr FV → Option (Tr FV)) (fun _ tm => some tm) (fun p _ ih xs tm => @List.rec FV (fun _ => Option (Tr FV)) (some tm) (fun x xs _ => Bool.rec (motive := fun _ => Option (Tr FV)) none (ih xs (vPut (some x) (pq p) tm)) (Nat.ble (Nat.succ p) sz)) xs)
theorem setAllQ_eq (sz : Nat) : ∀ (ps : List Nat) (xs : List FV) (tm : Tr FV), setAllQ sz ps xs tm = setAllF sz ps xs tm
  | [], xs, tm => by cases xs <;> rfl
  | p :: ps, [], tm => rfl
  | p :: ps, x :: xs, tm => by
    show Bool.rec (motive := fun _ => Option (Tr FV)) none (setAllQ sz ps xs (vPut (some x) (pq p) tm)) (Nat.ble (Nat.succ p) sz) = (if Nat.ble (Nat.succ p) sz = true then setAllF sz ps xs (tm.put p (some x)) else none)
    rw [setAllQ_eq sz ps xs, vPut_eq, kTput_eq]
    cases Nat.ble (Nat.succ p) sz <;> rfl

def freeQ (n : Nat) (x : Option FV) (k : Nat) : Bool := Bool.rec (motive := fun _ => Bool) true (@Option.rec FV (fun _ => Bool) true (fun _ => false) x) (Nat.ble n k)
theorem freeQ_eq (n : Nat) (x : Option FV) (k : Nat) : freeQ n x k = freeAt n x k := by
  unfold freeQ freeAt
  cases Nat.ble n k <;> cases x <;> rfl
def allA (f : Option FV → Nat → Bool) (w : Nat) (t : L1 FV) (base : Nat) : Bool :=
  @N8.rec (Option FV) (fun _ => (Option FV → Nat → Bool) → Nat → Nat → Bool) (fun c0 c1 c2 c3 c4 c5 c6 c7 f w base => Bool.rec (motive := fun _ => Bool) false (Bool.rec (motive := fun _ => Bool) false (Bool.rec (motive := fun _ => Bool) false (Bool.rec (motive := fun _ => Bool) false (Bool.rec (motive := fun _ => Bool) false (Bool.rec (motive := fun _ => Bool) false (Bool.rec (motive := fun _ => Bool) false (f c7 (Nat.add base (Nat.mul 7 w))) (f c6 (Nat.add base (Nat.mul 6 w)))) (f c5 (Nat.add base (Nat.mul 5 w)))) (f c4 (Nat.add base (Nat.mul 4 w)))) (f c3 (Nat.add base (Nat.mul 3 w)))) (f c2 (Nat.add base (Nat.mul 2 w)))) (f c1 (Nat.add base (Nat.mul 1 w)))) (f c0 (Nat.add base (Nat.mul 0 w)))) t f w base
def allB (f : L1 FV → Nat → Bool) (w : Nat) (t : L2 FV) (base : Nat) : Bool :=
  @N8.rec (L1 FV) (fun _ => (L1 FV → Nat → Bool) → Nat → Nat → Bool) (fun c0 c1 c2 c3 c4 c5 c6 c7 f w base => Bool.rec (motive := fun _ => Bool) false (Bool.rec (motive := fun _ => Bool) false (Bool.rec (motive := fun _ => Bool) false (Bool.rec (motive := fun _ => Bool) false (Bool.rec (motive := fun _ => Bool) false (Bool.rec (motive := fun _ => Bool) false (Bool.rec (motive := fun _ => Bool) false (f c7 (Nat.add base (Nat.mul 7 w))) (f c6 (Nat.add base (Nat.mul 6 w)))) (f c5 (Nat.add base (Nat.mul 5 w)))) (f c4 (Nat.add base (Nat.mul 4 w)))) (f c3 (Nat.add base (Nat.mul 3 w)))) (f c2 (Nat.add base (Nat.mul 2 w)))) (f c1 (Nat.add base (Nat.mul 1 w)))) (f c0 (Nat.add base (Nat.mul 0 w)))) t f w base
theorem and_rec (a b : Bool) : Bool.rec (motive := fun _ => Bool) false b a = (a && b) := by cases a <;> rfl
theorem allA_eq (f g : Option FV → Nat → Bool) (h : ∀ x k, f x k = g x k) (w : Nat) (t : L1 FV) (base : Nat) : allA f w t base = under8 g w t base := by
  obtain ⟨c0, c1, c2, c3, c4, c5, c6, c7⟩ := t
  show (Bool.rec (motive := fun _ => Bool) false (Bool.rec (motive := fun _ => Bool) false (Bool.rec (motive := fun _ => Bool) false (Bool.rec (motive := fun _ => Bool) false (Bool.rec (motive := fun _ => Bool) false (Bool.rec (motive := fun _ => Bool) false (Bool.rec (motive := fun _ => Bool) false (f c7 (Nat.add base (Nat.mul 7 w))) (f c6 (Nat.add base (Nat.mul 6 w)))) (f c5 (Nat.add base (Nat.mul 5 w)))) (f c4 (Nat.add base (Nat.mul 4 w)))) (f c3 (Nat.add base (Nat.mul 3 w)))) (f c2 (Nat.add base (Nat.mul 2 w)))) (f c1 (Nat.add base (Nat.mul 1 w)))) (f c0 (Nat.add base (Nat.mul 0 w)))) = _
  simp only [and_rec, under8, h]
theorem allB_eq (f g : L1 FV → Nat → Bool) (h : ∀ x k, f x k = g x k) (w : Nat) (t : L2 FV) (base : Nat) : allB f w t base = under8 g w t base := by
  obtain ⟨c0, c1, c2, c3, c4, c5, c6, c7⟩ := t
  show (Bool.rec (motive := fun _ => Bool) false (Bool.rec (motive := fun _ => Bool) false (Bool.rec (motive := fun _ => Bool) false (Bool.rec (motive := fun _ => Bool) false (Bool.rec (motive := fun _ => Bool) false (Bool.rec (motive := fun _ => Bool) false (Bool.rec (motive := fun _ => Bool) false (f c7 (Nat.add base (Nat.mul 7 w))) (f c6 (Nat.add base (Nat.mul 6 w)))) (f c5 (Nat.add base (Nat.mul 5 w)))) (f c4 (Nat.add base (Nat.mul 4 w)))) (f c3 (Nat.add base (Nat.mul 3 w)))) (f c2 (Nat.add base (Nat.mul 2 w)))) (f c1 (Nat.add base (Nat.mul 1 w)))) (f c0 (Nat.add base (Nat.mul 0 w)))) = _
  simp only [and_rec, under8, h]
def allC (f : L2 FV → Nat → Bool) (w : Nat) (t : L3 FV) (base : Nat) : Bool :=
  @N8.rec (L2 FV) (fun _ => (L2 FV → Nat → Bool) → Nat → Nat → Bool) (fun c0 c1 c2 c3 c4 c5 c6 c7 f w base => Bool.rec (motive := fun _ => Bool) false (Bool.rec (motive := fun _ => Bool) false (Bool.rec (motive := fun _ => Bool) false (Bool.rec (motive := fun _ => Bool) false (Bool.rec (motive := fun _ => Bool) false (Bool.rec (motive := fun _ => Bool) false (Bool.rec (motive := fun _ => Bool) false (f c7 (Nat.add base (Nat.mul 7 w))) (f c6 (Nat.add base (Nat.mul 6 w)))) (f c5 (Nat.add base (Nat.mul 5 w)))) (f c4 (Nat.add base (Nat.mul 4 w)))) (f c3 (Nat.add base (Nat.mul 3 w)))) (f c2 (Nat.add base (Nat.mul 2 w)))) (f c1 (Nat.add base (Nat.mul 1 w)))) (f c0 (Nat.add base (Nat.mul 0 w)))) t f w base
theorem allC_eq (f g : L2 FV → Nat → Bool) (h : ∀ x k, f x k = g x k) (w : Nat) (t : L3 FV) (base : Nat) : allC f w t base = under8 g w t base := by
  obtain ⟨c0, c1, c2, c3, c4, c5, c6, c7⟩ := t
  show (Bool.rec (motive := fun _ => Bool) false (Bool.rec (motive := fun _ => Bool) false (Bool.rec (motive := fun _ => Bool) false (Bool.rec (motive := fun _ => Bool) false (Bool.rec (motive := fun _ => Bool) false (Bool.rec (motive := fun _ => Bool) false (Bool.rec (motive := fun _ => Bool) false (f c7 (Nat.add base (Nat.mul 7 w))) (f c6 (Nat.add base (Nat.mul 6 w)))) (f c5 (Nat.add base (Nat.mul 5 w)))) (f c4 (Nat.add base (Nat.mul 4 w)))) (f c3 (Nat.add base (Nat.mul 3 w)))) (f c2 (Nat.add base (Nat.mul 2 w)))) (f c1 (Nat.add base (Nat.mul 1 w)))) (f c0 (Nat.add base (Nat.mul 0 w)))) = _
  simp only [and_rec, under8, h]
def isN : Option FV → Bool := @Option.rec FV (fun _ => Bool) true (fun _ => false)
theorem isN_eq (x : Option FV) : isN x = x.isNone := by cases x <;> rfl
def allNone (t : L1 FV) : Bool := @N8.rec (Option FV) (fun _ => Bool) (fun c0 c1 c2 c3 c4 c5 c6 c7 => Bool.rec (motive := fun _ => Bool) false (Bool.rec (motive := fun _ => Bool) false (Bool.rec (motive := fun _ => Bool) false (Bool.rec (motive := fun _ => Bool) false (Bool.rec (motive := fun _ => Bool) false (Bool.rec (motive := fun _ => Bool) false (Bool.rec (motive := fun _ => Bool) false (isN c7) (isN c6)) (isN c5)) (isN c4)) (isN c3)) (isN c2)) (isN c1)) (isN c0)) t
def chk1 (n : Nat) (t : L1 FV) (base : Nat) : Bool :=
  Bool.rec (motive := fun _ => Bool) (Bool.rec (motive := fun _ => Bool) (allA (freeQ n) 1 t base) (allNone t) (Nat.ble n base)) true (Nat.ble (Nat.add base 8) n)
theorem free_low {n k : Nat} (h : k < n) (x : Option FV) : freeAt n x k = true := by
  unfold freeAt
  cases hb : Nat.ble n k with
  | false => rfl
  | true => have := Nat.le_of_ble_eq_true hb; omega
theorem free_high {n k : Nat} (h : n ≤ k) (x : Option FV) : freeAt n x k = x.isNone := by
  unfold freeAt
  rw [Nat.ble_eq_true_of_le h]; rfl
theorem chk1_eq (n : Nat) (t : L1 FV) (base : Nat) : chk1 n t base = under8 (freeAt n) 1 t base := by
  unfold chk1
  cases h1 : Nat.ble (Nat.add base 8) n with
  | true =>
    have h1 : base + 8 ≤ n := Nat.le_of_ble_eq_true h1
    symm
    show under8 (freeAt n) 1 t base = true
    simp only [under8, Bool.and_eq_true]
    refine ⟨free_low ?_ _, free_low ?_ _, free_low ?_ _, free_low ?_ _, free_low ?_ _, free_low ?_ _, free_low ?_ _, free_low ?_ _⟩ <;> (simp only [Nat.add_eq, Nat.mul_eq]; omega)
  | false =>
    cases h2 : Nat.ble n base with
    | true =>
      have h2 : n ≤ base := Nat.le_of_ble_eq_true h2
      obtain ⟨c0, c1, c2, c3, c4, c5, c6, c7⟩ := t
      show (Bool.rec (motive := fun _ => Bool) false (Bool.rec (motive := fun _ => Bool) false (Bool.rec (motive := fun _ => Bool) false (Bool.rec (motive := fun _ => Bool) false (Bool.rec (motive := fun _ => Bool) false (Bool.rec (motive := fun _ => Bool) false (Bool.rec (motive := fun _ => Bool) false (isN c7) (isN c6)) (isN c5)) (isN c4)) (isN c3)) (isN c2)) (isN c1)) (isN c0)) = _
      simp only [and_rec, under8, isN_eq]
      rw [free_high (by simp only [Nat.add_eq, Nat.mul_eq]; omega), free_high (by simp only [Nat.add_eq, Nat.mul_eq]; omega), free_high (by simp only [Nat.add_eq, Nat.mul_eq]; omega), free_high (by simp only [Nat.add_eq, Nat.mul_eq]; omega),
        free_high (by simp only [Nat.add_eq, Nat.mul_eq]; omega), free_high (by simp only [Nat.add_eq, Nat.mul_eq]; omega), free_high (by simp only [Nat.add_eq, Nat.mul_eq]; omega), free_high (by simp only [Nat.add_eq, Nat.mul_eq]; omega)]
    | false => exact allA_eq _ _ (fun y j => freeQ_eq n y j) 1 t base
def restB (n : Nat) (b : Option (L3 FV)) : Bool := @Option.rec (L3 FV) (fun _ => Nat → Bool) (fun _ => true) (fun t n => allC (allB (chk1 n) 8) 64 t 64) b n
def restC (c : Option (L6 FV)) : Bool := @Option.rec (L6 FV) (fun _ => Bool) true (fun _ => false) c
def restR (r : Tb FV) : Bool := @Tb.rec FV (fun _ => Bool) true (fun _ _ _ _ _ => false) r
def underQ (t : Tr FV) (n : Nat) : Bool :=
  @Tr.rec FV (fun _ => Nat → Bool) (fun a b c r n => Bool.rec (motive := fun _ => Bool) false (Bool.rec (motive := fun _ => Bool) false (Bool.rec (motive := fun _ => Bool) false (restR r) (restC c)) (restB n b)) (allB (chk1 n) 8 a 0)) t n
theorem underQ_eq (t : Tr FV) (n : Nat) : underQ t n = t.under n := by
  obtain ⟨a, b, c, r⟩ := t
  show Bool.rec (motive := fun _ => Bool) false (Bool.rec (motive := fun _ => Bool) false (Bool.rec (motive := fun _ => Bool) false (restR r) (restC c)) (restB n b)) (allB (chk1 n) 8 a 0) = _
  simp only [and_rec]
  have ea : allB (chk1 n) 8 a 0 = under8 (under8 (freeAt n) 1) 8 a 0 := allB_eq _ _ (fun x k => chk1_eq n x k) 8 a 0
  rw [ea]
  cases b with
  | none => cases c <;> cases r <;> rfl
  | some t =>
    have eb : restB n (some t) = under8 (under8 (under8 (freeAt n) 1) 8) 64 t 64 := allC_eq _ _ (fun x k => allB_eq _ _ (fun y j => chk1_eq n y j) 8 x k) 64 t 64
    rw [eb]
    cases c <;> cases r <;> rfl

/-- What stands in a loop's record. -/
structure Rec where
  tm : Tr FV
  sz : Nat
  ps : List Nat
  asg : DCode
  bd : DCode

def recR : LSt → Rec → Option Rec := @LSt.rec (fun _ => Rec → Option Rec) (fun r => some r) (fun _ => none) (fun _ _ => none)
def recB : LSt → Rec → Option Rec := @LSt.rec (fun _ => Rec → Option Rec) (fun _ => none) (fun r => some r) (fun _ _ => none)
def readyQ (x : Option FBlk) : Option Rec := @Option.rec FBlk (fun _ => Option Rec) none (@FBlk.rec (fun _ => Option Rec) (fun _ => none) (fun _ => none) (fun st tm sz ps asg bd => recR st ⟨tm, sz, ps, asg, bd⟩) (fun _ _ _ => none)) x
def busyQ (x : Option FBlk) : Option Rec := @Option.rec FBlk (fun _ => Option Rec) none (@FBlk.rec (fun _ => Option Rec) (fun _ => none) (fun _ => none) (fun st tm sz ps asg bd => recB st ⟨tm, sz, ps, asg, bd⟩) (fun _ _ _ => none)) x

def endX : Ex → Rec → Nat → FHeap → Nat → Option (FV × FHeap × Nat) :=
  @Ex.rec (fun _ => Rec → Nat → FHeap → Nat → Option (FV × FHeap × Nat)) (fun r b h nx => some (.d (.bool true), hPut (some (.loop .ready r.tm r.sz r.ps r.asg r.bd)) (pq b) h, nx))
    (fun i r b h nx => some (.d (.bool false), hPut (some (.loop (.done (.exit i)) r.tm r.sz r.ps r.asg r.bd)) (pq b) h, nx)) (fun r b h nx => some (.d (.bool false), hPut (some (.loop (.done .ret) r.tm r.sz r.ps r.asg r.bd)) (pq b) h, nx))
def endR (x : Option Rec) (ex : Ex) (b : Nat) (h : FHeap) (nx : Nat) : Option (FV × FHeap × Nat) := @Option.rec Rec (fun _ => Ex → Nat → FHeap → Nat → Option (FV × FHeap × Nat)) (fun _ _ _ _ => none) (fun r ex b h nx => endX ex r b h nx) x ex b h nx
def endS : FSt → Ex → Nat → Option (FV × FHeap × Nat) := @FSt.rec (fun _ => Ex → Nat → Option (FV × FHeap × Nat)) (fun _ _ hp nx ex b => endR (busyQ (hGet (pq b) hp)) ex b hp nx)
def endP : Ex × FSt → Nat → Option (FV × FHeap × Nat) := @Prod.rec Ex FSt (fun _ => Nat → Option (FV × FHeap × Nat)) (fun ex s b => endS s ex b)
def endQ (b : Nat) (r : Option (Ex × FSt)) : Option (FV × FHeap × Nat) := @Option.rec (Ex × FSt) (fun _ => Nat → Option (FV × FHeap × Nat)) (fun _ => none) endP r b

theorem endQ_eq (b : Nat) (r : Option (Ex × FSt)) : endQ b r = endF b r := by
  cases r with
  | none => rfl
  | some p =>
    obtain ⟨ex, s⟩ := p
    show endR (busyQ (hGet (pq b) s.hp)) ex b s.hp s.nx = _
    rw [hGet_eq, kTget_eq]
    simp only [endF]
    cases s.hp.get b with
    | none => rfl
    | some y =>
      cases y with
      | loop st tm sz ps asg bd =>
        cases st with
        | busy =>
          show endX ex ⟨tm, sz, ps, asg, bd⟩ b s.hp s.nx = _
          cases ex with
          | normal => show some (_, hPut _ (pq b) s.hp, _) = _; rw [hPut_eq, kTput_eq]
          | exit i => show some (_, hPut _ (pq b) s.hp, _) = _; rw [hPut_eq, kTput_eq]
          | ret => show some (_, hPut _ (pq b) s.hp, _) = _; rw [hPut_eq, kTput_eq]
        | _ => rfl
      | _ => rfl

def beginR (x : Option Rec) (b : Nat) (body : FRunner) (tm : Tr FV) (sz : Nat) (hp : FHeap) (nx : Nat) : Option (FV × FHeap × Nat) :=
  @Option.rec Rec (fun _ => Nat → FRunner → Tr FV → Nat → FHeap → Nat → Option (FV × FHeap × Nat)) (fun _ _ _ _ _ _ => none) (fun r b body tm sz hp nx => endQ b (body ⟨tm, sz, hPut (some (.loop .busy r.tm r.sz r.ps r.asg r.bd)) (pq b) hp, nx⟩)) x b body tm sz hp nx
def beginS : FSt → Nat → FRunner → Option (FV × FHeap × Nat) := @FSt.rec (fun _ => Nat → FRunner → Option (FV × FHeap × Nat)) (fun tm sz hp nx b body => beginR (readyQ (hGet (pq b) hp)) b body tm sz hp nx)
def beginX : Ex → FSt → Nat → FRunner → Option (FV × FHeap × Nat) := @Ex.rec (fun _ => FSt → Nat → FRunner → Option (FV × FHeap × Nat)) beginS (fun _ _ _ _ => none) (fun _ _ _ => none)
def beginP : Ex × FSt → Nat → FRunner → Option (FV × FHeap × Nat) := @Prod.rec Ex FSt (fun _ => Nat → FRunner → Option (FV × FHeap × Nat)) beginX
def beginQ (b : Nat) (body : FRunner) (r : Option (Ex × FSt)) : Option (FV × FHeap × Nat) := @Option.rec (Ex × FSt) (fun _ => Nat → FRunner → Option (FV × FHeap × Nat)) (fun _ _ => none) beginP r b body

theorem beginQ_eq (b : Nat) (body : FRunner) (r : Option (Ex × FSt)) : beginQ b body r = beginF b body r := by
  cases r with
  | none => rfl
  | some p =>
    obtain ⟨ex, s⟩ := p
    cases ex with
    | normal =>
      show beginR (readyQ (hGet (pq b) s.hp)) b body s.tm s.sz s.hp s.nx = _
      rw [hGet_eq, kTget_eq]
      simp only [beginF]
      cases s.hp.get b with
      | none => rfl
      | some y =>
        cases y with
        | loop st tm sz ps asg bd =>
          cases st with
          | ready =>
            show endQ b (body ⟨s.tm, s.sz, hPut (some (.loop .busy tm sz ps asg bd)) (pq b) s.hp, s.nx⟩) = _
            rw [endQ_eq, hPut_eq, kTput_eq]
          | _ => rfl
        | _ => rfl
    | _ => rfl

def roundT (x : Option (Tr FV)) (r : Rec) (b : Nat) (ex : DCode → FRunner) (h : FHeap) (nx : Nat) : Option (FV × FHeap × Nat) :=
  @Option.rec (Tr FV) (fun _ => Rec → Nat → (DCode → FRunner) → FHeap → Nat → Option (FV × FHeap × Nat)) (fun _ _ _ _ _ => none) (fun tm r b ex h nx => beginQ b (ex r.bd) (ex r.asg ⟨tm, r.sz, h, nx⟩)) x r b ex h nx
def nlen (l : List Nat) : Nat := @List.rec Nat (fun _ => Nat) 0 (fun _ _ ih => Nat.succ ih) l
theorem nlen_eq (l : List Nat) : nlen l = klen l := rfl
def roundR (x : Option Rec) (b : Nat) (ex : DCode → FRunner) (args : List FV) (h : FHeap) (nx : Nat) : Option (FV × FHeap × Nat) :=
  @Option.rec Rec (fun _ => Nat → (DCode → FRunner) → List FV → FHeap → Nat → Option (FV × FHeap × Nat)) (fun _ _ _ _ _ => none)
    (fun r b ex args h nx => Bool.rec (motive := fun _ => Option (FV × FHeap × Nat)) none (Bool.rec (motive := fun _ => Option (FV × FHeap × Nat)) none (roundT (setAllQ r.sz r.ps args r.tm) r b ex h nx) (underQ r.tm r.sz)) (Nat.beq (vlen args) (nlen r.ps))) x b ex args h nx
def roundQ (b : Nat) (ex : DCode → FRunner) (args : List FV) (h : FHeap) (nx : Nat) : Option (FV × FHeap × Nat) := roundR (readyQ (hGet (pq b) h)) b ex args h nx

theorem roundQ_eq (b : Nat) (ex : DCode → FRunner) (args : List FV) (h : FHeap) (nx : Nat) : roundQ b ex args h nx = roundF b ex args h nx := by
  unfold roundQ roundF
  rw [hGet_eq, kTget_eq]
  cases h.get b with
  | none => rfl
  | some y =>
    cases y with
    | loop st tm sz ps asg bd =>
      cases st with
      | ready =>
        show Bool.rec (motive := fun _ => Option (FV × FHeap × Nat)) none (Bool.rec (motive := fun _ => Option (FV × FHeap × Nat)) none (roundT (setAllQ sz ps args tm) ⟨tm, sz, ps, asg, bd⟩ b ex h nx) (underQ tm sz)) (Nat.beq (vlen args) (nlen ps)) = (if args.length = ps.length ∧ tm.under sz = true then (match setAllF sz ps args tm with | some tm' => beginF b (ex bd) (ex asg { tm := tm', sz := sz, hp := h, nx := nx }) | none => none) else none)
        rw [setAllQ_eq, underQ_eq, vlen_eq, nlen_eq, klen_eq, klen_eq]
        cases hl : Nat.beq args.length ps.length with
        | false => rw [if_neg (fun e => by rw [e.1, Nat.beq_refl] at hl; cases hl)]
        | true =>
          cases hu : tm.under sz with
          | false => rw [if_neg (fun e => by cases e.2)]
          | true =>
            rw [if_pos ⟨Nat.eq_of_beq_eq_true hl, rfl⟩]
            show roundT (setAllF sz ps args tm) ⟨tm, sz, ps, asg, bd⟩ b ex h nx = _
            cases setAllF sz ps args tm with
            | none => rfl
            | some tm' => exact beginQ_eq _ _ _
      | _ => rfl
    | _ => rfl

def tgtQ : Tgt → Funcs → Facts → Tbl → FCaller → (FRunner → FRunner) → List FV → FHeap → Nat → Option (FV × FHeap × Nat) :=
  @Tgt.rec (fun _ => Funcs → Facts → Tbl → FCaller → (FRunner → FRunner) → List FV → FHeap → Nat → Option (FV × FHeap × Nat))
    (fun f fs fc tb cl lp args h nx => (compFO (fs f)).f fc tb cl lp args h nx) (fun b _ fc tb cl lp args h nx => roundQ b (fun c => (compE c).f fc tb cl lp) args h nx)

def runQ (fc : Facts) (tb : Tbl) (fs : Funcs) (n : Nat) : FCaller :=
  Nat.rec (motive := fun _ => FCaller) (fun _ _ _ _ => none) (fun n ih t args h nx => tgtQ t fs fc tb ih (fun b => loopQ b n) args h nx) n

theorem runQ_eq (fc : Facts) (tb : Tbl) (fs : Funcs) : ∀ n, runQ fc tb fs n = runK fc tb fs n
  | 0 => rfl
  | n + 1 => by
    funext t args h nx
    have el : (fun b => loopQ b n) = fun b => loopK b n := funext fun b => loopQ_eq b n
    show tgtQ t fs fc tb (runQ fc tb fs n) (fun b => loopQ b n) args h nx = _
    rw [runQ_eq fc tb fs n, el]
    cases t with
    | fn f => exact compFO_eq fc tb (runK fc tb fs n) (fun b => loopK b n) (fs f) args h nx
    | yd b =>
      show roundQ b (fun c => (compE c).f fc tb (runK fc tb fs n) (fun b => loopK b n)) args h nx = _
      rw [roundQ_eq]
      simp only [compE_eq]
      rfl

theorem quick_tb {fc : Facts} {tb : Tbl} {t : FTree} {n f : Nat} {args : List FV} (e : isTrueF (runQ fc tb (getK t) n (.fn f) args .nil 0) = true) : isTrueF (runF fc tb t.get n (.fn f) args .nil 0) = true := fast_tb (by rw [← runQ_eq]; exact e)

theorem quick {fc : Facts} {t : FTree} {n f : Nat} {args : List FV} (e : isTrueF (runQ fc [] (getK t) n (.fn f) args .nil 0) = true) : isTrueF (runF fc [] t.get n (.fn f) args .nil 0) = true := quick_tb e

theorem quick_res {fc : Facts} {tb : Tbl} {t : FTree} {n f : Nat} {args : List FV} {r : FV} (e : resF? (runQ fc tb (getK t) n (.fn f) args .nil 0) = some r) : resF? (runF fc tb t.get n (.fn f) args .nil 0) = some r := fast_res (by rw [← runQ_eq]; exact e)

end
end Go.Df
