/- The codes pass both checks. No condition. -/
import Derived.Test.YtolopdkchgohlabPmc
import Derived.Test.YtolopdkchgohlabMergeChainCodes
namespace Go.Dv.Pmc
open Go.Df
set_option maxRecDepth 100000

theorem ca19 : resF? (runR [] [] (getK tree) 500 (.fn 11) [codeA19] .nil 0) = some (.d (.int .i64 (.lit 0))) := by kernel_rfl

theorem cb19 : resF? (runR [] [] (getK tree) 500 (.fn 22) [codeB19] .nil 0) = some (.d (.int .i64 (.lit 0))) := by kernel_rfl

theorem ca20 : resF? (runR [] [] (getK tree) 500 (.fn 11) [codeA20] .nil 0) = some (.d (.int .i64 (.lit 0))) := by kernel_rfl

theorem cb20 : resF? (runR [] [] (getK tree) 500 (.fn 22) [codeB20] .nil 0) = some (.d (.int .i64 (.lit 0))) := by kernel_rfl

theorem ca21 : resF? (runR [] [] (getK tree) 500 (.fn 11) [codeA21] .nil 0) = some (.d (.int .i64 (.lit 0))) := by kernel_rfl

theorem cb21 : resF? (runR [] [] (getK tree) 500 (.fn 22) [codeB21] .nil 0) = some (.d (.int .i64 (.lit 0))) := by kernel_rfl

theorem ca22 : resF? (runR [] [] (getK tree) 500 (.fn 11) [codeA22] .nil 0) = some (.d (.int .i64 (.lit 0))) := by kernel_rfl

theorem cb22 : resF? (runR [] [] (getK tree) 500 (.fn 22) [codeB22] .nil 0) = some (.d (.int .i64 (.lit 0))) := by kernel_rfl

theorem ca23 : resF? (runR [] [] (getK tree) 500 (.fn 11) [codeA23] .nil 0) = some (.d (.int .i64 (.lit 0))) := by kernel_rfl

theorem cb23 : resF? (runR [] [] (getK tree) 500 (.fn 22) [codeB23] .nil 0) = some (.d (.int .i64 (.lit 0))) := by kernel_rfl

theorem ca24 : resF? (runR [] [] (getK tree) 500 (.fn 11) [codeA24] .nil 0) = some (.d (.int .i64 (.lit 0))) := by kernel_rfl

theorem cb24 : resF? (runR [] [] (getK tree) 500 (.fn 22) [codeB24] .nil 0) = some (.d (.int .i64 (.lit 0))) := by kernel_rfl

theorem ca25 : resF? (runR [] [] (getK tree) 500 (.fn 11) [codeA25] .nil 0) = some (.d (.int .i64 (.lit 0))) := by kernel_rfl

theorem cb25 : resF? (runR [] [] (getK tree) 500 (.fn 22) [codeB25] .nil 0) = some (.d (.int .i64 (.lit 0))) := by kernel_rfl

end Go.Dv.Pmc
