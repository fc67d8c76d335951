/- The law's runs at some of the rests of the third number. No condition. -/
import Derived.Test.YtpdgaigfmjfnoafPaf
import Derived.Test.YtpdgaigfmjfnoafFoldBinaryFacts
namespace Go.Dv.Paf
open Go.Df Go.Dv.FoldBinaryFacts
set_option maxRecDepth 100000

theorem all_m11 : ([(true, true), (false, true)] : List (Bool × Bool)).all (fun p => isTrueF (runK (fcs (-11) p.1 p.2) (getK tree) 300 (.fn 3) [.d (.int .i64 (.var 0)), .d (.int .i64 (.var 1)), .d (.int .i64 (.var 2))] .nil 0)) = true := by decide +kernel

theorem run_m11 (b c : Bool) : isTrueF (runK (fcs (-11) b c) (getK tree) 300 (.fn 3) [.d (.int .i64 (.var 0)), .d (.int .i64 (.var 1)), .d (.int .i64 (.var 2))] .nil 0) = true := by
  have h := all_m11
  rw [List.all_eq_true] at h
  have e : fcs (-11) b c = fcs (-11) b true := by cases c <;> rfl
  rw [e]
  cases b
  · exact h (false, true) (by simp)
  · exact h (true, true) (by simp)

theorem all_m10 : ([(true, true), (false, true)] : List (Bool × Bool)).all (fun p => isTrueF (runK (fcs (-10) p.1 p.2) (getK tree) 300 (.fn 3) [.d (.int .i64 (.var 0)), .d (.int .i64 (.var 1)), .d (.int .i64 (.var 2))] .nil 0)) = true := by decide +kernel

theorem run_m10 (b c : Bool) : isTrueF (runK (fcs (-10) b c) (getK tree) 300 (.fn 3) [.d (.int .i64 (.var 0)), .d (.int .i64 (.var 1)), .d (.int .i64 (.var 2))] .nil 0) = true := by
  have h := all_m10
  rw [List.all_eq_true] at h
  have e : fcs (-10) b c = fcs (-10) b true := by cases c <;> rfl
  rw [e]
  cases b
  · exact h (false, true) (by simp)
  · exact h (true, true) (by simp)

theorem all_m9 : ([(true, true), (false, true)] : List (Bool × Bool)).all (fun p => isTrueF (runK (fcs (-9) p.1 p.2) (getK tree) 300 (.fn 3) [.d (.int .i64 (.var 0)), .d (.int .i64 (.var 1)), .d (.int .i64 (.var 2))] .nil 0)) = true := by decide +kernel

theorem run_m9 (b c : Bool) : isTrueF (runK (fcs (-9) b c) (getK tree) 300 (.fn 3) [.d (.int .i64 (.var 0)), .d (.int .i64 (.var 1)), .d (.int .i64 (.var 2))] .nil 0) = true := by
  have h := all_m9
  rw [List.all_eq_true] at h
  have e : fcs (-9) b c = fcs (-9) b true := by cases c <;> rfl
  rw [e]
  cases b
  · exact h (false, true) (by simp)
  · exact h (true, true) (by simp)

theorem all_m8 : ([(true, true), (false, true)] : List (Bool × Bool)).all (fun p => isTrueF (runK (fcs (-8) p.1 p.2) (getK tree) 300 (.fn 3) [.d (.int .i64 (.var 0)), .d (.int .i64 (.var 1)), .d (.int .i64 (.var 2))] .nil 0)) = true := by decide +kernel

theorem run_m8 (b c : Bool) : isTrueF (runK (fcs (-8) b c) (getK tree) 300 (.fn 3) [.d (.int .i64 (.var 0)), .d (.int .i64 (.var 1)), .d (.int .i64 (.var 2))] .nil 0) = true := by
  have h := all_m8
  rw [List.all_eq_true] at h
  have e : fcs (-8) b c = fcs (-8) b true := by cases c <;> rfl
  rw [e]
  cases b
  · exact h (false, true) (by simp)
  · exact h (true, true) (by simp)

end Go.Dv.Paf
