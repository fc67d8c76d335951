/- The law's runs. No condition. -/
import Derived.Test.YtolopdkchgohlabPmc
import Derived.Test.YtolopdkchgohlabMergeChainCodes
namespace Go.Dv.Pmc
open Go.Df
set_option maxRecDepth 100000

theorem run13 : isTrueF (runR [] tbl13 (getK tree) 600 (.fn 3) [.d (.int .i64 (.var 0)), .opq] .nil 0) = true := by decide +kernel

theorem run14 : isTrueF (runR [] tbl14 (getK tree) 600 (.fn 3) [.d (.int .i64 (.var 0)), .opq] .nil 0) = true := by decide +kernel

theorem run15 : isTrueF (runR [] tbl15 (getK tree) 600 (.fn 3) [.d (.int .i64 (.var 0)), .opq] .nil 0) = true := by decide +kernel

theorem run16 : isTrueF (runR [] tbl16 (getK tree) 600 (.fn 3) [.d (.int .i64 (.var 0)), .opq] .nil 0) = true := by decide +kernel

theorem run17 : isTrueF (runR [] tbl17 (getK tree) 600 (.fn 3) [.d (.int .i64 (.var 0)), .opq] .nil 0) = true := by decide +kernel

end Go.Dv.Pmc
