/- The codes pass both checks. No condition. -/
import Derived.Test.YtolopdkchgohlabPmc
import Derived.Test.YtolopdkchgohlabMergeChainCodes
namespace Go.Dv.Pmc
open Go.Df
set_option maxRecDepth 100000

theorem ca0 : resF? (runR [] [] (getK tree) 500 (.fn 11) [codeA0] .nil 0) = some (.d (.int .i64 (.lit 0))) := by kernel_rfl

theorem cb0 : resF? (runR [] [] (getK tree) 500 (.fn 22) [codeB0] .nil 0) = some (.d (.int .i64 (.lit 0))) := by kernel_rfl

theorem ca1 : resF? (runR [] [] (getK tree) 500 (.fn 11) [codeA1] .nil 0) = some (.d (.int .i64 (.lit 0))) := by kernel_rfl

theorem cb1 : resF? (runR [] [] (getK tree) 500 (.fn 22) [codeB1] .nil 0) = some (.d (.int .i64 (.lit 0))) := by kernel_rfl

theorem ca2 : resF? (runR [] [] (getK tree) 500 (.fn 11) [codeA2] .nil 0) = some (.d (.int .i64 (.lit 0))) := by kernel_rfl

theorem cb2 : resF? (runR [] [] (getK tree) 500 (.fn 22) [codeB2] .nil 0) = some (.d (.int .i64 (.lit 0))) := by kernel_rfl

theorem ca3 : resF? (runR [] [] (getK tree) 500 (.fn 11) [codeA3] .nil 0) = some (.d (.int .i64 (.lit 0))) := by kernel_rfl

theorem cb3 : resF? (runR [] [] (getK tree) 500 (.fn 22) [codeB3] .nil 0) = some (.d (.int .i64 (.lit 0))) := by kernel_rfl

theorem ca4 : resF? (runR [] [] (getK tree) 500 (.fn 11) [codeA4] .nil 0) = some (.d (.int .i64 (.lit 0))) := by kernel_rfl

theorem cb4 : resF? (runR [] [] (getK tree) 500 (.fn 22) [codeB4] .nil 0) = some (.d (.int .i64 (.lit 0))) := by kernel_rfl

theorem ca5 : resF? (runR [] [] (getK tree) 500 (.fn 11) [codeA5] .nil 0) = some (.d (.int .i64 (.lit 0))) := by kernel_rfl

theorem cb5 : resF? (runR [] [] (getK tree) 500 (.fn 22) [codeB5] .nil 0) = some (.d (.int .i64 (.lit 0))) := by kernel_rfl

theorem ca6 : resF? (runR [] [] (getK tree) 500 (.fn 11) [codeA6] .nil 0) = some (.d (.int .i64 (.lit 0))) := by kernel_rfl

theorem cb6 : resF? (runR [] [] (getK tree) 500 (.fn 22) [codeB6] .nil 0) = some (.d (.int .i64 (.lit 0))) := by kernel_rfl

theorem ca7 : resF? (runR [] [] (getK tree) 500 (.fn 11) [codeA7] .nil 0) = some (.d (.int .i64 (.lit 0))) := by kernel_rfl

theorem cb7 : resF? (runR [] [] (getK tree) 500 (.fn 22) [codeB7] .nil 0) = some (.d (.int .i64 (.lit 0))) := by kernel_rfl

theorem ca8 : resF? (runR [] [] (getK tree) 500 (.fn 11) [codeA8] .nil 0) = some (.d (.int .i64 (.lit 0))) := by kernel_rfl

theorem cb8 : resF? (runR [] [] (getK tree) 500 (.fn 22) [codeB8] .nil 0) = some (.d (.int .i64 (.lit 0))) := by kernel_rfl

theorem ca9 : resF? (runR [] [] (getK tree) 500 (.fn 11) [codeA9] .nil 0) = some (.d (.int .i64 (.lit 0))) := by kernel_rfl

theorem cb9 : resF? (runR [] [] (getK tree) 500 (.fn 22) [codeB9] .nil 0) = some (.d (.int .i64 (.lit 0))) := by kernel_rfl

theorem ca10 : resF? (runR [] [] (getK tree) 500 (.fn 11) [codeA10] .nil 0) = some (.d (.int .i64 (.lit 0))) := by kernel_rfl

theorem cb10 : resF? (runR [] [] (getK tree) 500 (.fn 22) [codeB10] .nil 0) = some (.d (.int .i64 (.lit 0))) := by kernel_rfl

theorem ca11 : resF? (runR [] [] (getK tree) 500 (.fn 11) [codeA11] .nil 0) = some (.d (.int .i64 (.lit 0))) := by kernel_rfl

theorem cb11 : resF? (runR [] [] (getK tree) 500 (.fn 22) [codeB11] .nil 0) = some (.d (.int .i64 (.lit 0))) := by kernel_rfl

theorem ca12 : resF? (runR [] [] (getK tree) 500 (.fn 11) [codeA12] .nil 0) = some (.d (.int .i64 (.lit 0))) := by kernel_rfl

theorem cb12 : resF? (runR [] [] (getK tree) 500 (.fn 22) [codeB12] .nil 0) = some (.d (.int .i64 (.lit 0))) := by kernel_rfl

theorem ca13 : resF? (runR [] [] (getK tree) 500 (.fn 11) [codeA13] .nil 0) = some (.d (.int .i64 (.lit 0))) := by kernel_rfl

theorem cb13 : resF? (runR [] [] (getK tree) 500 (.fn 22) [codeB13] .nil 0) = some (.d (.int .i64 (.lit 0))) := by kernel_rfl

theorem ca14 : resF? (runR [] [] (getK tree) 500 (.fn 11) [codeA14] .nil 0) = some (.d (.int .i64 (.lit 0))) := by kernel_rfl

theorem cb14 : resF? (runR [] [] (getK tree) 500 (.fn 22) [codeB14] .nil 0) = some (.d (.int .i64 (.lit 0))) := by kernel_rfl

theorem ca15 : resF? (runR [] [] (getK tree) 500 (.fn 11) [codeA15] .nil 0) = some (.d (.int .i64 (.lit 0))) := by kernel_rfl

theorem cb15 : resF? (runR [] [] (getK tree) 500 (.fn 22) [codeB15] .nil 0) = some (.d (.int .i64 (.lit 0))) := by kernel_rfl

theorem ca16 : resF? (runR [] [] (getK tree) 500 (.fn 11) [codeA16] .nil 0) = some (.d (.int .i64 (.lit 0))) := by kernel_rfl

theorem cb16 : resF? (runR [] [] (getK tree) 500 (.fn 22) [codeB16] .nil 0) = some (.d (.int .i64 (.lit 0))) := by kernel_rfl

theorem ca17 : resF? (runR [] [] (getK tree) 500 (.fn 11) [codeA17] .nil 0) = some (.d (.int .i64 (.lit 0))) := by kernel_rfl

theorem cb17 : resF? (runR [] [] (getK tree) 500 (.fn 22) [codeB17] .nil 0) = some (.d (.int .i64 (.lit 0))) := by kernel_rfl

theorem ca18 : resF? (runR [] [] (getK tree) 500 (.fn 11) [codeA18] .nil 0) = some (.d (.int .i64 (.lit 0))) := by kernel_rfl

theorem cb18 : resF? (runR [] [] (getK tree) 500 (.fn 22) [codeB18] .nil 0) = some (.d (.int .i64 (.lit 0))) := by kernel_rfl

end Go.Dv.Pmc
