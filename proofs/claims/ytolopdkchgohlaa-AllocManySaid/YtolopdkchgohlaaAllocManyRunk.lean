/- The law's runs. No condition. -/
import Derived.Test.YtolopdkchgohlaaPam
import Derived.KernelRfl
import Derived.Test.YtolopdkchgohlaaAllocManyMod
namespace Go.Dv.Pam
open Go.Df
set_option maxRecDepth 100000

theorem run23_4 : isTrueF (runR [] (tbl 23 4) (getK tree) 400 (.fn 3) [.d (.int .i64 (.var 0)), .d (.int .i64 (.var 1))] .nil 0) = true := by decide +kernel

theorem run24_0 : isTrueF (runR [] (tbl 24 0) (getK tree) 400 (.fn 3) [.d (.int .i64 (.var 0)), .d (.int .i64 (.var 1))] .nil 0) = true := by decide +kernel

theorem run24_1 : isTrueF (runR [] (tbl 24 1) (getK tree) 400 (.fn 3) [.d (.int .i64 (.var 0)), .d (.int .i64 (.var 1))] .nil 0) = true := by decide +kernel

theorem run24_2 : isTrueF (runR [] (tbl 24 2) (getK tree) 400 (.fn 3) [.d (.int .i64 (.var 0)), .d (.int .i64 (.var 1))] .nil 0) = true := by decide +kernel

theorem run24_3 : isTrueF (runR [] (tbl 24 3) (getK tree) 400 (.fn 3) [.d (.int .i64 (.var 0)), .d (.int .i64 (.var 1))] .nil 0) = true := by decide +kernel

theorem run24_4 : isTrueF (runR [] (tbl 24 4) (getK tree) 400 (.fn 3) [.d (.int .i64 (.var 0)), .d (.int .i64 (.var 1))] .nil 0) = true := by decide +kernel

end Go.Dv.Pam
