/- What is left when a number is divided; the sanity check. No condition. -/
import Derived.Test.YtolopdkchgohlaaPam
import Derived.KernelRfl
import Derived.Test.YtolopdkchgohlaaDfN
namespace Go.Dv.Pam
open Go.Df
set_option maxRecDepth 100000

def remA : E := .bin .rem .i64 (.var 0) (.lit 30)
theorem lowA : resF? (runR [(.lss, remA, .lit 0, true)] [] (getK tree) 50 (.fn 4) [.d (.int .i64 (.var 0)), .d (.int .i64 (.lit 30))] .nil 0) = some (.d (.int .i64 (.bin .add .i64 remA (.lit 30)))) := by kernel_rfl
theorem highA : resF? (runR [(.lss, remA, .lit 0, false)] [] (getK tree) 50 (.fn 4) [.d (.int .i64 (.var 0)), .d (.int .i64 (.lit 30))] .nil 0) = some (.d (.int .i64 remA)) := by kernel_rfl

def remB : E := .bin .rem .i64 (.var 1) (.lit 5)
theorem lowB : resF? (runR [(.lss, remB, .lit 0, true)] [] (getK tree) 50 (.fn 4) [.d (.int .i64 (.var 1)), .d (.int .i64 (.lit 5))] .nil 0) = some (.d (.int .i64 (.bin .add .i64 remB (.lit 5)))) := by kernel_rfl
theorem highB : resF? (runR [(.lss, remB, .lit 0, false)] [] (getK tree) 50 (.fn 4) [.d (.int .i64 (.var 1)), .d (.int .i64 (.lit 5))] .nil 0) = some (.d (.int .i64 remB)) := by kernel_rfl

theorem knownRun : resF? (runR [] [] (getK tree) 400 (.fn 6) [] .nil 0) = some (.d (.bool true)) := by kernel_rfl

def tbl (k p : Nat) : Tbl := [(4, [.d (.int .i64 (.var 0)), .d (.int .i64 (.lit 30))], .d (.int .i64 (.lit (.ofNat k)))), (4, [.d (.int .i64 (.var 1)), .d (.int .i64 (.lit 5))], .d (.int .i64 (.lit (.ofNat p)))), (6, [], .d (.bool true))]

end Go.Dv.Pam
