/- The law's runs at some of the rests of the last number. No condition. -/
import Derived.Test.YtpdgaigfmjfnoahPah
namespace Go.Dv.Pah
open Go.Df
set_option maxRecDepth 100000

theorem all_p0 : ([true, false] : List Bool).all (fun b => isTrueF (runK [(.eql, .bin .rem .i64 (.var 3) (.lit 4), .lit (0), true)] (getK tree) 300 (.fn 3) [.d (.int .i64 (.var 0)), .d (.int .i64 (.var 1)), .d (.bool b), .d (.int .i64 (.var 3))] .nil 0)) = true := by decide +kernel

theorem run_p0 (b : Bool) : isTrueF (runK [(.eql, .bin .rem .i64 (.var 3) (.lit 4), .lit (0), true)] (getK tree) 300 (.fn 3) [.d (.int .i64 (.var 0)), .d (.int .i64 (.var 1)), .d (.bool b), .d (.int .i64 (.var 3))] .nil 0) = true := by
  have h := all_p0
  rw [List.all_eq_true] at h
  cases b
  · exact h false (by simp)
  · exact h true (by simp)

theorem all_p1 : ([true, false] : List Bool).all (fun b => isTrueF (runK [(.eql, .bin .rem .i64 (.var 3) (.lit 4), .lit (1), true)] (getK tree) 300 (.fn 3) [.d (.int .i64 (.var 0)), .d (.int .i64 (.var 1)), .d (.bool b), .d (.int .i64 (.var 3))] .nil 0)) = true := by decide +kernel

theorem run_p1 (b : Bool) : isTrueF (runK [(.eql, .bin .rem .i64 (.var 3) (.lit 4), .lit (1), true)] (getK tree) 300 (.fn 3) [.d (.int .i64 (.var 0)), .d (.int .i64 (.var 1)), .d (.bool b), .d (.int .i64 (.var 3))] .nil 0) = true := by
  have h := all_p1
  rw [List.all_eq_true] at h
  cases b
  · exact h false (by simp)
  · exact h true (by simp)

theorem all_p2 : ([true, false] : List Bool).all (fun b => isTrueF (runK [(.eql, .bin .rem .i64 (.var 3) (.lit 4), .lit (2), true)] (getK tree) 300 (.fn 3) [.d (.int .i64 (.var 0)), .d (.int .i64 (.var 1)), .d (.bool b), .d (.int .i64 (.var 3))] .nil 0)) = true := by decide +kernel

theorem run_p2 (b : Bool) : isTrueF (runK [(.eql, .bin .rem .i64 (.var 3) (.lit 4), .lit (2), true)] (getK tree) 300 (.fn 3) [.d (.int .i64 (.var 0)), .d (.int .i64 (.var 1)), .d (.bool b), .d (.int .i64 (.var 3))] .nil 0) = true := by
  have h := all_p2
  rw [List.all_eq_true] at h
  cases b
  · exact h false (by simp)
  · exact h true (by simp)

theorem all_p3 : ([true, false] : List Bool).all (fun b => isTrueF (runK [(.eql, .bin .rem .i64 (.var 3) (.lit 4), .lit (3), true)] (getK tree) 300 (.fn 3) [.d (.int .i64 (.var 0)), .d (.int .i64 (.var 1)), .d (.bool b), .d (.int .i64 (.var 3))] .nil 0)) = true := by decide +kernel

theorem run_p3 (b : Bool) : isTrueF (runK [(.eql, .bin .rem .i64 (.var 3) (.lit 4), .lit (3), true)] (getK tree) 300 (.fn 3) [.d (.int .i64 (.var 0)), .d (.int .i64 (.var 1)), .d (.bool b), .d (.int .i64 (.var 3))] .nil 0) = true := by
  have h := all_p3
  rw [List.all_eq_true] at h
  cases b
  · exact h false (by simp)
  · exact h true (by simp)

end Go.Dv.Pah
