/- The law's runs at some of the rests of the third number. No condition. -/
import Derived.Test.YtpdgaigfmjfnoafPaf
import Derived.Test.YtpdgaigfmjfnoafFoldBinaryFacts
namespace Go.Dv.Paf
open Go.Df Go.Dv.FoldBinaryFacts
set_option maxRecDepth 100000

theorem all_p1 : ([(true, true), (false, true)] : List (Bool × Bool)).all (fun p => isTrueF (runK (fcs (1) p.1 p.2) (getK tree) 300 (.fn 3) [.d (.int .i64 (.var 0)), .d (.int .i64 (.var 1)), .d (.int .i64 (.var 2))] .nil 0)) = true := by decide +kernel

theorem run_p1 (b c : Bool) : isTrueF (runK (fcs (1) b c) (getK tree) 300 (.fn 3) [.d (.int .i64 (.var 0)), .d (.int .i64 (.var 1)), .d (.int .i64 (.var 2))] .nil 0) = true := by
  have h := all_p1
  rw [List.all_eq_true] at h
  have e : fcs (1) b c = fcs (1) b true := by cases c <;> rfl
  rw [e]
  cases b
  · exact h (false, true) (by simp)
  · exact h (true, true) (by simp)

theorem all_p2 : ([(true, true), (false, true)] : List (Bool × Bool)).all (fun p => isTrueF (runK (fcs (2) p.1 p.2) (getK tree) 300 (.fn 3) [.d (.int .i64 (.var 0)), .d (.int .i64 (.var 1)), .d (.int .i64 (.var 2))] .nil 0)) = true := by decide +kernel

theorem run_p2 (b c : Bool) : isTrueF (runK (fcs (2) b c) (getK tree) 300 (.fn 3) [.d (.int .i64 (.var 0)), .d (.int .i64 (.var 1)), .d (.int .i64 (.var 2))] .nil 0) = true := by
  have h := all_p2
  rw [List.all_eq_true] at h
  have e : fcs (2) b c = fcs (2) b true := by cases c <;> rfl
  rw [e]
  cases b
  · exact h (false, true) (by simp)
  · exact h (true, true) (by simp)

theorem all_p3 : ([(true, true), (false, true)] : List (Bool × Bool)).all (fun p => isTrueF (runK (fcs (3) p.1 p.2) (getK tree) 300 (.fn 3) [.d (.int .i64 (.var 0)), .d (.int .i64 (.var 1)), .d (.int .i64 (.var 2))] .nil 0)) = true := by decide +kernel

theorem run_p3 (b c : Bool) : isTrueF (runK (fcs (3) b c) (getK tree) 300 (.fn 3) [.d (.int .i64 (.var 0)), .d (.int .i64 (.var 1)), .d (.int .i64 (.var 2))] .nil 0) = true := by
  have h := all_p3
  rw [List.all_eq_true] at h
  have e : fcs (3) b c = fcs (3) b true := by cases c <;> rfl
  rw [e]
  cases b
  · exact h (false, true) (by simp)
  · exact h (true, true) (by simp)

theorem all_p4 : ([(true, true), (false, true)] : List (Bool × Bool)).all (fun p => isTrueF (runK (fcs (4) p.1 p.2) (getK tree) 300 (.fn 3) [.d (.int .i64 (.var 0)), .d (.int .i64 (.var 1)), .d (.int .i64 (.var 2))] .nil 0)) = true := by decide +kernel

theorem run_p4 (b c : Bool) : isTrueF (runK (fcs (4) b c) (getK tree) 300 (.fn 3) [.d (.int .i64 (.var 0)), .d (.int .i64 (.var 1)), .d (.int .i64 (.var 2))] .nil 0) = true := by
  have h := all_p4
  rw [List.all_eq_true] at h
  have e : fcs (4) b c = fcs (4) b true := by cases c <;> rfl
  rw [e]
  cases b
  · exact h (false, true) (by simp)
  · exact h (true, true) (by simp)

end Go.Dv.Paf
