/- The law's runs at some of the rests of the third number. No condition. -/
import Derived.Test.YtpdgaigfmjfnoafPaf
import Derived.Test.YtpdgaigfmjfnoafFoldBinaryFacts
namespace Go.Dv.Paf
open Go.Df Go.Dv.FoldBinaryFacts
set_option maxRecDepth 100000

theorem all_p9 : ([(true, true), (true, false), (false, true), (false, false)] : List (Bool × Bool)).all (fun p => isTrueF (runK (fcs (9) p.1 p.2) (getK tree) 300 (.fn 3) [.d (.int .i64 (.var 0)), .d (.int .i64 (.var 1)), .d (.int .i64 (.var 2))] .nil 0)) = true := by decide +kernel

theorem run_p9 (b c : Bool) : isTrueF (runK (fcs (9) b c) (getK tree) 300 (.fn 3) [.d (.int .i64 (.var 0)), .d (.int .i64 (.var 1)), .d (.int .i64 (.var 2))] .nil 0) = true := by
  have h := all_p9
  rw [List.all_eq_true] at h
  cases b <;> cases c
  · exact h (false, false) (by simp)
  · exact h (false, true) (by simp)
  · exact h (true, false) (by simp)
  · exact h (true, true) (by simp)

theorem all_p10 : ([(true, true), (true, false), (false, true), (false, false)] : List (Bool × Bool)).all (fun p => isTrueF (runK (fcs (10) p.1 p.2) (getK tree) 300 (.fn 3) [.d (.int .i64 (.var 0)), .d (.int .i64 (.var 1)), .d (.int .i64 (.var 2))] .nil 0)) = true := by decide +kernel

theorem run_p10 (b c : Bool) : isTrueF (runK (fcs (10) b c) (getK tree) 300 (.fn 3) [.d (.int .i64 (.var 0)), .d (.int .i64 (.var 1)), .d (.int .i64 (.var 2))] .nil 0) = true := by
  have h := all_p10
  rw [List.all_eq_true] at h
  cases b <;> cases c
  · exact h (false, false) (by simp)
  · exact h (false, true) (by simp)
  · exact h (true, false) (by simp)
  · exact h (true, true) (by simp)

theorem all_p11 : ([(true, true), (true, false), (false, true), (false, false)] : List (Bool × Bool)).all (fun p => isTrueF (runK (fcs (11) p.1 p.2) (getK tree) 300 (.fn 3) [.d (.int .i64 (.var 0)), .d (.int .i64 (.var 1)), .d (.int .i64 (.var 2))] .nil 0)) = true := by decide +kernel

theorem run_p11 (b c : Bool) : isTrueF (runK (fcs (11) b c) (getK tree) 300 (.fn 3) [.d (.int .i64 (.var 0)), .d (.int .i64 (.var 1)), .d (.int .i64 (.var 2))] .nil 0) = true := by
  have h := all_p11
  rw [List.all_eq_true] at h
  cases b <;> cases c
  · exact h (false, false) (by simp)
  · exact h (false, true) (by simp)
  · exact h (true, false) (by simp)
  · exact h (true, true) (by simp)

end Go.Dv.Paf
