/- The law's runs. No condition. -/
import Derived.Test.YtolopdkchgohlabPmc
import Derived.Test.YtolopdkchgohlabMergeChainCodes
namespace Go.Dv.Pmc
open Go.Df
set_option maxRecDepth 100000

theorem run0 : isTrueF (runR [] tbl0 (getK tree) 600 (.fn 3) [.d (.int .i64 (.var 0)), .opq] .nil 0) = true := by decide +kernel

theorem run1 : isTrueF (runR [] tbl1 (getK tree) 600 (.fn 3) [.d (.int .i64 (.var 0)), .opq] .nil 0) = true := by decide +kernel

theorem run2 : isTrueF (runR [] tbl2 (getK tree) 600 (.fn 3) [.d (.int .i64 (.var 0)), .opq] .nil 0) = true := by decide +kernel

theorem run3 : isTrueF (runR [] tbl3 (getK tree) 600 (.fn 3) [.d (.int .i64 (.var 0)), .opq] .nil 0) = true := by decide +kernel

theorem run4 : isTrueF (runR [] tbl4 (getK tree) 600 (.fn 3) [.d (.int .i64 (.var 0)), .opq] .nil 0) = true := by decide +kernel

theorem run5 : isTrueF (runR [] tbl5 (getK tree) 600 (.fn 3) [.d (.int .i64 (.var 0)), .opq] .nil 0) = true := by decide +kernel

theorem run6 : isTrueF (runR [] tbl6 (getK tree) 600 (.fn 3) [.d (.int .i64 (.var 0)), .opq] .nil 0) = true := by decide +kernel

theorem run7 : isTrueF (runR [] tbl7 (getK tree) 600 (.fn 3) [.d (.int .i64 (.var 0)), .opq] .nil 0) = true := by decide +kernel

theorem run8 : isTrueF (runR [] tbl8 (getK tree) 600 (.fn 3) [.d (.int .i64 (.var 0)), .opq] .nil 0) = true := by decide +kernel

theorem run9 : isTrueF (runR [] tbl9 (getK tree) 600 (.fn 3) [.d (.int .i64 (.var 0)), .opq] .nil 0) = true := by decide +kernel

theorem run10 : isTrueF (runR [] tbl10 (getK tree) 600 (.fn 3) [.d (.int .i64 (.var 0)), .opq] .nil 0) = true := by decide +kernel

theorem run11 : isTrueF (runR [] tbl11 (getK tree) 600 (.fn 3) [.d (.int .i64 (.var 0)), .opq] .nil 0) = true := by decide +kernel

theorem run12 : isTrueF (runR [] tbl12 (getK tree) 600 (.fn 3) [.d (.int .i64 (.var 0)), .opq] .nil 0) = true := by decide +kernel

end Go.Dv.Pmc
