/- From the plain walk of one operation to the walk in a round's frame. No condition. -/
import Derived.Test.YtjnllnigogpagadDvC
import Derived.RangeFuncIn
import Derived.OrdersIn
import Derived.TacticsIn
import Derived.LoopNIn
namespace Go.Dv

/-- The wide fence, within a round or not. -/
def Fw (r : Option Nat) : Fence := { Fence.wide with round := r }

theorem Fw_fn (r : Option Nat) (f : FuncId) : (Fw r).fn f := trivial

theorem Fw_depth (r : Option Nat) : (Fw r).depth = none := rfl

theorem Fw_room (r : Option Nat) (n : Nat) : (Fw r).room n := fun _ h => by simp [Fw, Fence.wide] at h

theorem callsIn_Fw {r : Option Nat} {n : Nat} {P : Program} {f : FuncId} {args : Array Value} {w : World} {R : Ending → World → Prop} (h : Calls P f args w R) : CallsIn (Fw r) n P f args w R :=
  callsIn_wide.2 h

/-- One operation that is no 'defer'. -/
theorem oper_in {r : Option Nat} {n : Nat} {P : Program} {o : Oper} {a : Act} {w : World} {K : Act → World → Prop} {Q : Exit → Act → World → Prop} (hd : ∀ c, o.op ≠ .defer c)
    (h : o.wp P a w K Q) (hrow : ∀ row args w', (execOp a.eval o).run P w ≠ .ok (.row row args) w') : o.wpIn (Fw r) n P a w K Q := by
  refine ⟨fun _ _ => trivial, ?_⟩
  have e : o.semAt (Fw r).round a.eval = execOp a.eval o := by
    cases r with
    | none => rfl
    | some l => exact Oper.semAt_some l _ _ hd
  rw [e]
  unfold Oper.wp at h
  generalize (execOp a.eval o).run P w = res at h hrow
  cases res with
  | ok x w' =>
    cases x with
    | enter f args => exact ⟨fun hh => by simp [Fw_depth] at hh, callsIn_Fw h⟩
    | row row args => exact absurd rfl (hrow row args w')
    | round l f tmps assign body => exact h.elim
    | _ => exact h
  | halt x w' => cases x <;> exact h

end Go.Dv
