/- The law's function returns true. No condition. -/
import Derived.Test.YtpdgaigfmjfnoahPahOk
import Derived.Test.YtpdgaigfmjfnoahIrShowsRuna
import Derived.Test.YtpdgaigfmjfnoahIrShowsRunb
namespace Go.Dv.IrShowsWalk
open Go Go.Df Go.Proofs Go.RowKit Go.Dv.Pah

def ev (a0 a1 a3 : Int) : Ev := fun i => if i = 0 then a0 else if i = 1 then a1 else a3

theorem go {a0 a1 a3 j : Int} {a2 : Bool} {w : World} (hj : a3.tmod 4 = j)
    (hr : ∀ b, isTrueF (runK [(.eql, .bin .rem .i64 (.var 3) (.lit 4), .lit j, true)] (getK tree) 300 (.fn 3) [.d (.int .i64 (.var 0)), .d (.int .i64 (.var 1)), .d (.bool b), .d (.int .i64 (.var 3))] .nil 0) = true) :
    Calls Try.prog 3 #[.int .i64 a0, .int .i64 a1, .bool a2, .int .i64 a3] w fun e w' => e = .returned (.bool true) ∧ Grown w w' := by
  have hx : CRel (fun _ => none) (fun _ => False) w (([.d (.int .i64 (.var 0)), .d (.int .i64 (.var 1)), .d (.bool a2), .d (.int .i64 (.var 3))] : List FV).map (FV.den (ev a0 a1 a3))) (#[.int .i64 a0, .int .i64 a1, .bool a2, .int .i64 a3] : Array Value).toList := by
    simp only [List.map_cons, List.map_nil, den_d, den_int, den_bool, E.den]
    exact args_int (args_int (args_bool (args_int args_nil)))
  exact law_true orders ok (facts_cons (by simp [intOp, E.den, V.bool, ev, opVal, hj]) facts_nil) (fast (hr a2)) hx

theorem rests (a3 : Int) : a3.tmod 4 = -3 ∨ a3.tmod 4 = -2 ∨ a3.tmod 4 = -1 ∨ a3.tmod 4 = 0 ∨ a3.tmod 4 = 1 ∨ a3.tmod 4 = 2 ∨ a3.tmod 4 = 3 := by
  have h1 : a3.tmod 4 < 4 := Int.tmod_lt_of_pos a3 (by decide)
  have h2 : -4 < a3.tmod 4 := by
    have := Int.tmod_lt_of_pos (-a3) (b := 4) (by decide)
    rw [Int.neg_tmod] at this
    omega
  omega

theorem walk (a0 a1 : Int) (a2 : Bool) (a3 : Int) (w : World) : Calls Try.prog 3 #[.int .i64 a0, .int .i64 a1, .bool a2, .int .i64 a3] w fun e w' => e = .returned (.bool true) ∧ Grown w w' := by
  rcases rests a3 with h | h | h | h | h | h | h
  · exact go h run_m3
  · exact go h run_m2
  · exact go h run_m1
  · exact go h run_p0
  · exact go h run_p1
  · exact go h run_p2
  · exact go h run_p3

end Go.Dv.IrShowsWalk
