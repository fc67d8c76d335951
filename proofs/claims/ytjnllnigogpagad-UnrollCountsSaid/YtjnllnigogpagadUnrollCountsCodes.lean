/- The code of the counting loop, what it becomes, and that the checks pass. No condition. -/
import Derived.Test.YtjnllnigogpagadPuc
import Derived.KernelRfl
import Derived.Test.YtjnllnigogpagadDfN
namespace Go.Dv.Puc
open Go.Df
set_option maxRecDepth 100000

def i (n : Nat) : FT := .int .i64 (.lit (.ofNat n))
def m1 : FT := .int .i64 (.lit (.negSucc 0))
def rem100 : E := .bin .rem .i64 (.var 0) (.lit 100)

def codeC : FV := .agg [.d (i 1), .d (.lst 10 [[i 1, .lst 11 [[i 1, i 1, i 0, i 0, i 0, i 0, i 0, i 0, i 0, i 0, i 0]], i 1, i 0, i 0, .nils, i 1, .lst 1 [[i 0], [i 1]], m1, .nils], [i 2, .lst 11 [[i 19, i 0, i 0, i 0, i 7, i 0, i 0, i 0, i 0, i 0, i 0]], i 2, i 0, i 0, .nils, i 2, .lst 1 [[i 0], [i 1]], i 3, .lst 1 [[i 1]]], [i 2, .lst 11 [[i 1, i 2, i 0, i 0, i 1, i 0, i 0, i 0, i 0, i 0, i 0], [i 4, i 3, i 0, i 2, i 0, i 0, i 0, i 0, i 0, i 0, i 0], [i 3, i 4, i 1, i 2, i 0, i 0, i 0, i 0, i 0, i 0, i 0]], i 1, i 0, i 0, .nils, i 1, .lst 1 [[i 3], [i 4]], m1, .nils], [i 1, .lst 11 [], i 4, i 0, i 0, .nils, m1, .nils, m1, .nils]]), .d (.lst 3 [[m1, m1, i 0]]), .d (.nils)]

def codeU : FV := .agg [.d (i 1), .d (.lst 10 [[i 1, .lst 11 [[i 1, i 1, i 0, i 0, i 0, i 0, i 0, i 0, i 0, i 0, i 0]], i 1, i 0, i 0, .nils, i 1, .lst 1 [[i 0], [i 1]], m1, .nils], [i 2, .lst 11 [[i 19, i 0, i 0, i 0, i 7, i 0, i 0, i 0, i 0, i 0, i 0]], i 2, i 0, i 0, .nils, i 2, .lst 1 [[i 0], [i 1]], i 3, .lst 1 [[i 1]]], [i 2, .lst 11 [[i 1, i 2, i 0, i 0, i 1, i 0, i 0, i 0, i 0, i 0, i 0], [i 4, i 3, i 0, i 2, i 0, i 0, i 0, i 0, i 0, i 0, i 0], [i 3, i 4, i 1, i 2, i 0, i 0, i 0, i 0, i 0, i 0, i 0], [i 19, i 0, i 0, i 0, i 7, i 0, i 0, i 0, i 0, i 0, i 0]], i 2, i 3, i 0, .nils, i 4, .lst 1 [[i 3], [i 4]], i 3, .lst 1 [[i 4]]], [i 1, .nils, i 4, i 0, i 0, .nils, m1, .nils, m1, .nils], [i 2, .lst 11 [[i 1, i 2, i 0, i 0, i 1, i 0, i 0, i 0, i 0, i 0, i 0], [i 4, i 3, i 0, i 2, i 0, i 0, i 0, i 0, i 0, i 0, i 0], [i 3, i 4, i 1, i 2, i 0, i 0, i 0, i 0, i 0, i 0, i 0], [i 19, i 0, i 0, i 0, i 7, i 0, i 0, i 0, i 0, i 0, i 0]], i 2, i 3, i 0, .nils, i 2, .lst 1 [[i 3], [i 4]], i 3, .lst 1 [[i 4]]]]), .d (.lst 3 [[m1, m1, i 0]]), .d (.nils)]

theorem modLow : resF? (runR [(.lss, rem100, .lit 0, true)] [] (getK tree) 50 (.fn 4) [.d (.int .i64 (.var 0)), .d (.int .i64 (.lit 100))] .nil 0) = some (.d (.int .i64 (.bin .add .i64 rem100 (.lit 100)))) := by kernel_rfl

theorem modHigh : resF? (runR [(.lss, rem100, .lit 0, false)] [] (getK tree) 50 (.fn 4) [.d (.int .i64 (.var 0)), .d (.int .i64 (.lit 100))] .nil 0) = some (.d (.int .i64 (rem100))) := by kernel_rfl

theorem knownRun : resF? (runR [] [] (getK tree) 700 (.fn 9) [] .nil 0) = some (.d (.bool true)) := by kernel_rfl

theorem counterRun : resF? (runR [] [] (getK tree) 700 (.fn 7) [] .nil 0) = some codeC := by kernel_rfl

theorem unrollRun : resF? (runR [] [] (getK tree) 700 (.fn 6) [codeC] .nil 0) = some codeU := by kernel_rfl

theorem againRun : resF? (runR [] [] (getK tree) 700 (.fn 6) [codeU] .nil 0) = some codeU := by kernel_rfl

theorem checkU : resF? (runR [] [] (getK tree) 700 (.fn 19) [codeU] .nil 0) = some (.d (.int .i64 (.lit 0))) := by kernel_rfl

def tbl (k : Nat) : Tbl := [(4, [.d (.int .i64 (.var 0)), .d (.int .i64 (.lit 100))], .d (.int .i64 (.lit (.ofNat k)))), (9, [], .d (.bool true)), (7, [], codeC), (6, [codeC], codeU), (6, [codeU], codeU), (19, [codeU], .d (.int .i64 (.lit 0)))]

end Go.Dv.Puc
