/- The law's runs at some of the rests of the third number. No condition. -/
import Derived.Test.YtpdgaigfmjfnoafPaf
import Derived.Test.YtpdgaigfmjfnoafFoldBinaryFacts
namespace Go.Dv.Paf
open Go.Df Go.Dv.FoldBinaryFacts
set_option maxRecDepth 100000

theorem all_m3 : ([(true, true), (true, false), (false, true), (false, false)] : List (Bool × Bool)).all (fun p => isTrueF (runK (fcs (-3) p.1 p.2) (getK tree) 300 (.fn 3) [.d (.int .i64 (.var 0)), .d (.int .i64 (.var 1)), .d (.int .i64 (.var 2))] .nil 0)) = true := by decide +kernel

theorem run_m3 (b c : Bool) : isTrueF (runK (fcs (-3) b c) (getK tree) 300 (.fn 3) [.d (.int .i64 (.var 0)), .d (.int .i64 (.var 1)), .d (.int .i64 (.var 2))] .nil 0) = true := by
  have h := all_m3
  rw [List.all_eq_true] at h
  cases b <;> cases c
  · exact h (false, false) (by simp)
  · exact h (false, true) (by simp)
  · exact h (true, false) (by simp)
  · exact h (true, true) (by simp)

theorem all_m2 : ([(true, true), (true, false), (false, true), (false, false)] : List (Bool × Bool)).all (fun p => isTrueF (runK (fcs (-2) p.1 p.2) (getK tree) 300 (.fn 3) [.d (.int .i64 (.var 0)), .d (.int .i64 (.var 1)), .d (.int .i64 (.var 2))] .nil 0)) = true := by decide +kernel

theorem run_m2 (b c : Bool) : isTrueF (runK (fcs (-2) b c) (getK tree) 300 (.fn 3) [.d (.int .i64 (.var 0)), .d (.int .i64 (.var 1)), .d (.int .i64 (.var 2))] .nil 0) = true := by
  have h := all_m2
  rw [List.all_eq_true] at h
  cases b <;> cases c
  · exact h (false, false) (by simp)
  · exact h (false, true) (by simp)
  · exact h (true, false) (by simp)
  · exact h (true, true) (by simp)

theorem all_m1 : ([(true, true), (true, false), (false, true), (false, false)] : List (Bool × Bool)).all (fun p => isTrueF (runK (fcs (-1) p.1 p.2) (getK tree) 300 (.fn 3) [.d (.int .i64 (.var 0)), .d (.int .i64 (.var 1)), .d (.int .i64 (.var 2))] .nil 0)) = true := by decide +kernel

theorem run_m1 (b c : Bool) : isTrueF (runK (fcs (-1) b c) (getK tree) 300 (.fn 3) [.d (.int .i64 (.var 0)), .d (.int .i64 (.var 1)), .d (.int .i64 (.var 2))] .nil 0) = true := by
  have h := all_m1
  rw [List.all_eq_true] at h
  cases b <;> cases c
  · exact h (false, false) (by simp)
  · exact h (false, true) (by simp)
  · exact h (true, false) (by simp)
  · exact h (true, true) (by simp)

theorem all_p0 : ([(true, true), (false, true)] : List (Bool × Bool)).all (fun p => isTrueF (runK (fcs (0) p.1 p.2) (getK tree) 300 (.fn 3) [.d (.int .i64 (.var 0)), .d (.int .i64 (.var 1)), .d (.int .i64 (.var 2))] .nil 0)) = true := by decide +kernel

theorem run_p0 (b c : Bool) : isTrueF (runK (fcs (0) b c) (getK tree) 300 (.fn 3) [.d (.int .i64 (.var 0)), .d (.int .i64 (.var 1)), .d (.int .i64 (.var 2))] .nil 0) = true := by
  have h := all_p0
  rw [List.all_eq_true] at h
  have e : fcs (0) b c = fcs (0) b true := by cases c <;> rfl
  rw [e]
  cases b
  · exact h (false, true) (by simp)
  · exact h (true, true) (by simp)

end Go.Dv.Paf
