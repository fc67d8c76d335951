/- The law's runs. No condition. -/
import Derived.Test.YtolopdkchgohlabPmc
import Derived.Test.YtolopdkchgohlabMergeChainCodes
namespace Go.Dv.Pmc
open Go.Df
set_option maxRecDepth 100000

theorem run25 : isTrueF (runR [] tbl25 (getK tree) 600 (.fn 3) [.d (.int .i64 (.var 0)), .opq] .nil 0) = true := by decide +kernel

theorem run26 : isTrueF (runR [] tbl26 (getK tree) 600 (.fn 3) [.d (.int .i64 (.var 0)), .opq] .nil 0) = true := by decide +kernel

end Go.Dv.Pmc
