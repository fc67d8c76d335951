/- The law's function returns true. No condition. -/
import Derived.Test.YtpdgaigfmjfnoafPafOk
import Derived.Test.YtpdgaigfmjfnoafFoldBinaryFacts
import Derived.Test.YtpdgaigfmjfnoafFoldBinaryRuna
import Derived.Test.YtpdgaigfmjfnoafFoldBinaryRunb
import Derived.Test.YtpdgaigfmjfnoafFoldBinaryRunc
import Derived.Test.YtpdgaigfmjfnoafFoldBinaryRund
import Derived.Test.YtpdgaigfmjfnoafFoldBinaryRune
import Derived.Test.YtpdgaigfmjfnoafFoldBinaryRunf
namespace Go.Dv.FoldBinaryWalk
open Go Go.Df Go.Proofs Go.RowKit Go.Dv.Paf Go.Dv.FoldBinaryFacts

theorem go {a0 a1 a2 j : Int} {w : World} (hj : a2.tmod 12 = j) (hr : ∀ b c, isTrueF (runK (fcs j b c) (getK tree) 300 (.fn 3) [.d (.int .i64 (.var 0)), .d (.int .i64 (.var 1)), .d (.int .i64 (.var 2))] .nil 0) = true) :
    Calls Try.prog 3 #[.int .i64 a0, .int .i64 a1, .int .i64 a2] w fun e w' => e = .returned (.bool true) ∧ Grown w w' := by
  have hx : CRel (fun _ => none) (fun _ => False) w (([.d (.int .i64 (.var 0)), .d (.int .i64 (.var 1)), .d (.int .i64 (.var 2))] : List FV).map (FV.den (ev a0 a1 a2))) (#[.int .i64 a0, .int .i64 a1, .int .i64 a2] : Array Value).toList := by
    simp only [List.map_cons, List.map_nil, den_d, den_int, E.den]
    exact args_int (args_int (args_int args_nil))
  exact law_true orders ok (facts hj) (fast (hr _ _)) hx

theorem rests (a2 : Int) : a2.tmod 12 = -11 ∨ a2.tmod 12 = -10 ∨ a2.tmod 12 = -9 ∨ a2.tmod 12 = -8 ∨ a2.tmod 12 = -7 ∨ a2.tmod 12 = -6 ∨ a2.tmod 12 = -5 ∨ a2.tmod 12 = -4 ∨ a2.tmod 12 = -3 ∨ a2.tmod 12 = -2 ∨ a2.tmod 12 = -1 ∨ a2.tmod 12 = 0 ∨ a2.tmod 12 = 1 ∨ a2.tmod 12 = 2 ∨ a2.tmod 12 = 3 ∨ a2.tmod 12 = 4 ∨ a2.tmod 12 = 5 ∨ a2.tmod 12 = 6 ∨ a2.tmod 12 = 7 ∨ a2.tmod 12 = 8 ∨ a2.tmod 12 = 9 ∨ a2.tmod 12 = 10 ∨ a2.tmod 12 = 11 := by
  have h1 : a2.tmod 12 < 12 := Int.tmod_lt_of_pos a2 (by decide)
  have h2 : -12 < a2.tmod 12 := by
    have := Int.tmod_lt_of_pos (-a2) (b := 12) (by decide)
    rw [Int.neg_tmod] at this
    omega
  omega

theorem walk (a0 a1 a2 : Int) (w : World) : Calls Try.prog 3 #[.int .i64 a0, .int .i64 a1, .int .i64 a2] w fun e w' => e = .returned (.bool true) ∧ Grown w w' := by
  rcases rests a2 with h | h | h | h | h | h | h | h | h | h | h | h | h | h | h | h | h | h | h | h | h | h | h
  · exact go h run_m11
  · exact go h run_m10
  · exact go h run_m9
  · exact go h run_m8
  · exact go h run_m7
  · exact go h run_m6
  · exact go h run_m5
  · exact go h run_m4
  · exact go h run_m3
  · exact go h run_m2
  · exact go h run_m1
  · exact go h run_p0
  · exact go h run_p1
  · exact go h run_p2
  · exact go h run_p3
  · exact go h run_p4
  · exact go h run_p5
  · exact go h run_p6
  · exact go h run_p7
  · exact go h run_p8
  · exact go h run_p9
  · exact go h run_p10
  · exact go h run_p11

end Go.Dv.FoldBinaryWalk
