/- The law's runs at some of the rests of the third number. No condition. -/
import Derived.Test.YtpdgaigfmjfnoafPaf
import Derived.Test.YtpdgaigfmjfnoafFoldBinaryFacts
namespace Go.Dv.Paf
open Go.Df Go.Dv.FoldBinaryFacts
set_option maxRecDepth 100000

theorem all_m7 : ([(true, true), (false, true)] : List (Bool × Bool)).all (fun p => isTrueF (runK (fcs (-7) p.1 p.2) (getK tree) 300 (.fn 3) [.d (.int .i64 (.var 0)), .d (.int .i64 (.var 1)), .d (.int .i64 (.var 2))] .nil 0)) = true := by decide +kernel

theorem run_m7 (b c : Bool) : isTrueF (runK (fcs (-7) b c) (getK tree) 300 (.fn 3) [.d (.int .i64 (.var 0)), .d (.int .i64 (.var 1)), .d (.int .i64 (.var 2))] .nil 0) = true := by
  have h := all_m7
  rw [List.all_eq_true] at h
  have e : fcs (-7) b c = fcs (-7) b true := by cases c <;> rfl
  rw [e]
  cases b
  · exact h (false, true) (by simp)
  · exact h (true, true) (by simp)

theorem all_m6 : ([(true, true), (false, true)] : List (Bool × Bool)).all (fun p => isTrueF (runK (fcs (-6) p.1 p.2) (getK tree) 300 (.fn 3) [.d (.int .i64 (.var 0)), .d (.int .i64 (.var 1)), .d (.int .i64 (.var 2))] .nil 0)) = true := by decide +kernel

theorem run_m6 (b c : Bool) : isTrueF (runK (fcs (-6) b c) (getK tree) 300 (.fn 3) [.d (.int .i64 (.var 0)), .d (.int .i64 (.var 1)), .d (.int .i64 (.var 2))] .nil 0) = true := by
  have h := all_m6
  rw [List.all_eq_true] at h
  have e : fcs (-6) b c = fcs (-6) b true := by cases c <;> rfl
  rw [e]
  cases b
  · exact h (false, true) (by simp)
  · exact h (true, true) (by simp)

theorem all_m5 : ([(true, true), (false, true)] : List (Bool × Bool)).all (fun p => isTrueF (runK (fcs (-5) p.1 p.2) (getK tree) 300 (.fn 3) [.d (.int .i64 (.var 0)), .d (.int .i64 (.var 1)), .d (.int .i64 (.var 2))] .nil 0)) = true := by decide +kernel

theorem run_m5 (b c : Bool) : isTrueF (runK (fcs (-5) b c) (getK tree) 300 (.fn 3) [.d (.int .i64 (.var 0)), .d (.int .i64 (.var 1)), .d (.int .i64 (.var 2))] .nil 0) = true := by
  have h := all_m5
  rw [List.all_eq_true] at h
  have e : fcs (-5) b c = fcs (-5) b true := by cases c <;> rfl
  rw [e]
  cases b
  · exact h (false, true) (by simp)
  · exact h (true, true) (by simp)

theorem all_m4 : ([(true, true), (true, false), (false, true), (false, false)] : List (Bool × Bool)).all (fun p => isTrueF (runK (fcs (-4) p.1 p.2) (getK tree) 300 (.fn 3) [.d (.int .i64 (.var 0)), .d (.int .i64 (.var 1)), .d (.int .i64 (.var 2))] .nil 0)) = true := by decide +kernel

theorem run_m4 (b c : Bool) : isTrueF (runK (fcs (-4) b c) (getK tree) 300 (.fn 3) [.d (.int .i64 (.var 0)), .d (.int .i64 (.var 1)), .d (.int .i64 (.var 2))] .nil 0) = true := by
  have h := all_m4
  rw [List.all_eq_true] at h
  cases b <;> cases c
  · exact h (false, false) (by simp)
  · exact h (false, true) (by simp)
  · exact h (true, false) (by simp)
  · exact h (true, true) (by simp)

end Go.Dv.Paf
