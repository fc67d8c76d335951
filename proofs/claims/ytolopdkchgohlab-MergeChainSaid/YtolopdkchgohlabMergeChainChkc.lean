/- The codes pass both checks. No condition. -/
import Derived.Test.YtolopdkchgohlabPmc
import Derived.Test.YtolopdkchgohlabMergeChainCodes
namespace Go.Dv.Pmc
open Go.Df
set_option maxRecDepth 100000

theorem ca26 : resF? (runR [] [] (getK tree) 500 (.fn 11) [codeA26] .nil 0) = some (.d (.int .i64 (.lit 0))) := by kernel_rfl

theorem cb26 : resF? (runR [] [] (getK tree) 500 (.fn 22) [codeB26] .nil 0) = some (.d (.int .i64 (.lit 0))) := by kernel_rfl

theorem ca27 : resF? (runR [] [] (getK tree) 500 (.fn 11) [codeA27] .nil 0) = some (.d (.int .i64 (.lit 0))) := by kernel_rfl

theorem cb27 : resF? (runR [] [] (getK tree) 500 (.fn 22) [codeB27] .nil 0) = some (.d (.int .i64 (.lit 0))) := by kernel_rfl

theorem ca28 : resF? (runR [] [] (getK tree) 500 (.fn 11) [codeA28] .nil 0) = some (.d (.int .i64 (.lit 0))) := by kernel_rfl

theorem cb28 : resF? (runR [] [] (getK tree) 500 (.fn 22) [codeB28] .nil 0) = some (.d (.int .i64 (.lit 0))) := by kernel_rfl

theorem ca29 : resF? (runR [] [] (getK tree) 500 (.fn 11) [codeA29] .nil 0) = some (.d (.int .i64 (.lit 0))) := by kernel_rfl

theorem cb29 : resF? (runR [] [] (getK tree) 500 (.fn 22) [codeB29] .nil 0) = some (.d (.int .i64 (.lit 0))) := by kernel_rfl

end Go.Dv.Pmc
