/- The law's runs at some of the rests of the third number. No condition. -/
import Derived.Test.YtpdgaigfmjfnoafPaf
import Derived.Test.YtpdgaigfmjfnoafFoldBinaryFacts
namespace Go.Dv.Paf
open Go.Df Go.Dv.FoldBinaryFacts
set_option maxRecDepth 100000

theorem all_p5 : ([(true, true), (false, true)] : List (Bool × Bool)).all (fun p => isTrueF (runK (fcs (5) p.1 p.2) (getK tree) 300 (.fn 3) [.d (.int .i64 (.var 0)), .d (.int .i64 (.var 1)), .d (.int .i64 (.var 2))] .nil 0)) = true := by decide +kernel

theorem run_p5 (b c : Bool) : isTrueF (runK (fcs (5) b c) (getK tree) 300 (.fn 3) [.d (.int .i64 (.var 0)), .d (.int .i64 (.var 1)), .d (.int .i64 (.var 2))] .nil 0) = true := by
  have h := all_p5
  rw [List.all_eq_true] at h
  have e : fcs (5) b c = fcs (5) b true := by cases c <;> rfl
  rw [e]
  cases b
  · exact h (false, true) (by simp)
  · exact h (true, true) (by simp)

theorem all_p6 : ([(true, true), (false, true)] : List (Bool × Bool)).all (fun p => isTrueF (runK (fcs (6) p.1 p.2) (getK tree) 300 (.fn 3) [.d (.int .i64 (.var 0)), .d (.int .i64 (.var 1)), .d (.int .i64 (.var 2))] .nil 0)) = true := by decide +kernel

theorem run_p6 (b c : Bool) : isTrueF (runK (fcs (6) b c) (getK tree) 300 (.fn 3) [.d (.int .i64 (.var 0)), .d (.int .i64 (.var 1)), .d (.int .i64 (.var 2))] .nil 0) = true := by
  have h := all_p6
  rw [List.all_eq_true] at h
  have e : fcs (6) b c = fcs (6) b true := by cases c <;> rfl
  rw [e]
  cases b
  · exact h (false, true) (by simp)
  · exact h (true, true) (by simp)

theorem all_p7 : ([(true, true), (false, true)] : List (Bool × Bool)).all (fun p => isTrueF (runK (fcs (7) p.1 p.2) (getK tree) 300 (.fn 3) [.d (.int .i64 (.var 0)), .d (.int .i64 (.var 1)), .d (.int .i64 (.var 2))] .nil 0)) = true := by decide +kernel

theorem run_p7 (b c : Bool) : isTrueF (runK (fcs (7) b c) (getK tree) 300 (.fn 3) [.d (.int .i64 (.var 0)), .d (.int .i64 (.var 1)), .d (.int .i64 (.var 2))] .nil 0) = true := by
  have h := all_p7
  rw [List.all_eq_true] at h
  have e : fcs (7) b c = fcs (7) b true := by cases c <;> rfl
  rw [e]
  cases b
  · exact h (false, true) (by simp)
  · exact h (true, true) (by simp)

theorem all_p8 : ([(true, true), (true, false), (false, true), (false, false)] : List (Bool × Bool)).all (fun p => isTrueF (runK (fcs (8) p.1 p.2) (getK tree) 300 (.fn 3) [.d (.int .i64 (.var 0)), .d (.int .i64 (.var 1)), .d (.int .i64 (.var 2))] .nil 0)) = true := by decide +kernel

theorem run_p8 (b c : Bool) : isTrueF (runK (fcs (8) b c) (getK tree) 300 (.fn 3) [.d (.int .i64 (.var 0)), .d (.int .i64 (.var 1)), .d (.int .i64 (.var 2))] .nil 0) = true := by
  have h := all_p8
  rw [List.all_eq_true] at h
  cases b <;> cases c
  · exact h (false, false) (by simp)
  · exact h (false, true) (by simp)
  · exact h (true, false) (by simp)
  · exact h (true, true) (by simp)

end Go.Dv.Paf
