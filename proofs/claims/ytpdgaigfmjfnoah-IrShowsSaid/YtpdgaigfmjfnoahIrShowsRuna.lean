/- The law's runs at some of the rests of the last number. No condition. -/
import Derived.Test.YtpdgaigfmjfnoahPah
namespace Go.Dv.Pah
open Go.Df
set_option maxRecDepth 100000

theorem all_m3 : ([true, false] : List Bool).all (fun b => isTrueF (runK [(.eql, .bin .rem .i64 (.var 3) (.lit 4), .lit (-3), true)] (getK tree) 300 (.fn 3) [.d (.int .i64 (.var 0)), .d (.int .i64 (.var 1)), .d (.bool b), .d (.int .i64 (.var 3))] .nil 0)) = true := by decide +kernel

theorem run_m3 (b : Bool) : isTrueF (runK [(.eql, .bin .rem .i64 (.var 3) (.lit 4), .lit (-3), true)] (getK tree) 300 (.fn 3) [.d (.int .i64 (.var 0)), .d (.int .i64 (.var 1)), .d (.bool b), .d (.int .i64 (.var 3))] .nil 0) = true := by
  have h := all_m3
  rw [List.all_eq_true] at h
  cases b
  · exact h false (by simp)
  · exact h true (by simp)

theorem all_m2 : ([true, false] : List Bool).all (fun b => isTrueF (runK [(.eql, .bin .rem .i64 (.var 3) (.lit 4), .lit (-2), true)] (getK tree) 300 (.fn 3) [.d (.int .i64 (.var 0)), .d (.int .i64 (.var 1)), .d (.bool b), .d (.int .i64 (.var 3))] .nil 0)) = true := by decide +kernel

theorem run_m2 (b : Bool) : isTrueF (runK [(.eql, .bin .rem .i64 (.var 3) (.lit 4), .lit (-2), true)] (getK tree) 300 (.fn 3) [.d (.int .i64 (.var 0)), .d (.int .i64 (.var 1)), .d (.bool b), .d (.int .i64 (.var 3))] .nil 0) = true := by
  have h := all_m2
  rw [List.all_eq_true] at h
  cases b
  · exact h false (by simp)
  · exact h true (by simp)

theorem all_m1 : ([true, false] : List Bool).all (fun b => isTrueF (runK [(.eql, .bin .rem .i64 (.var 3) (.lit 4), .lit (-1), true)] (getK tree) 300 (.fn 3) [.d (.int .i64 (.var 0)), .d (.int .i64 (.var 1)), .d (.bool b), .d (.int .i64 (.var 3))] .nil 0)) = true := by decide +kernel

theorem run_m1 (b : Bool) : isTrueF (runK [(.eql, .bin .rem .i64 (.var 3) (.lit 4), .lit (-1), true)] (getK tree) 300 (.fn 3) [.d (.int .i64 (.var 0)), .d (.int .i64 (.var 1)), .d (.bool b), .d (.int .i64 (.var 3))] .nil 0) = true := by
  have h := all_m1
  rw [List.all_eq_true] at h
  cases b
  · exact h false (by simp)
  · exact h true (by simp)

end Go.Dv.Pah
