/- What is taken to be known of the three unknowns in a run of the law. No condition. -/
import Derived.Test.YtpdgaigfmjfnoafDfM
namespace Go.Dv.FoldBinaryFacts
open Go.Df

/-- How the comparison ends that the operation makes, if it makes one. -/
def cmps (j : Int) (c : Bool) : Facts :=
  if j = 8 ∨ j = -4 then [(.lss, .var 0, .var 1, c)] else if j = 9 ∨ j = -3 then [(.leq, .var 0, .var 1, c)]
  else if j = 10 ∨ j = 11 ∨ j = -2 ∨ j = -1 then [(.eql, .var 0, .var 1, c)] else []

def fcs (j : Int) (b c : Bool) : Facts := (.eql, .bin .rem .i64 (.var 2) (.lit 12), .lit j, true) :: (.eql, .var 1, .lit 0, b) :: cmps j c

def cOf (j a b : Int) : Bool := if j = 8 ∨ j = -4 then decide (a < b) else if j = 9 ∨ j = -3 then decide (a ≤ b) else a == b

def ev (a0 a1 a2 : Int) : Ev := fun i => if i = 0 then a0 else if i = 1 then a1 else a2

theorem facts {a0 a1 a2 j : Int} (hj : a2.tmod 12 = j) : FactsOk (ev a0 a1 a2) (fcs j (a1 == 0) (cOf j a0 a1)) := by
  refine facts_cons (by simp [intOp, E.den, V.bool, ev, opVal, hj]) (facts_cons (by simp [intOp, E.den, V.bool, ev]) ?_)
  unfold cmps cOf
  split
  · exact facts_cons (by simp [intOp, E.den, V.bool, ev]) facts_nil
  · split
    · exact facts_cons (by simp [intOp, E.den, V.bool, ev]) facts_nil
    · split
      · exact facts_cons (by simp [intOp, E.den, V.bool, ev]) facts_nil
      · exact facts_nil

end Go.Dv.FoldBinaryFacts
