/- The law's runs. No condition. -/
import Derived.Test.YtolopdkchgohlaaPam
import Derived.KernelRfl
import Derived.Test.YtolopdkchgohlaaAllocManyMod
namespace Go.Dv.Pam
open Go.Df
set_option maxRecDepth 100000

theorem run27_1 : isTrueF (runR [] (tbl 27 1) (getK tree) 400 (.fn 3) [.d (.int .i64 (.var 0)), .d (.int .i64 (.var 1))] .nil 0) = true := by decide +kernel

theorem run27_2 : isTrueF (runR [] (tbl 27 2) (getK tree) 400 (.fn 3) [.d (.int .i64 (.var 0)), .d (.int .i64 (.var 1))] .nil 0) = true := by decide +kernel

theorem run27_3 : isTrueF (runR [] (tbl 27 3) (getK tree) 400 (.fn 3) [.d (.int .i64 (.var 0)), .d (.int .i64 (.var 1))] .nil 0) = true := by decide +kernel

theorem run27_4 : isTrueF (runR [] (tbl 27 4) (getK tree) 400 (.fn 3) [.d (.int .i64 (.var 0)), .d (.int .i64 (.var 1))] .nil 0) = true := by decide +kernel

theorem run28_0 : isTrueF (runR [] (tbl 28 0) (getK tree) 400 (.fn 3) [.d (.int .i64 (.var 0)), .d (.int .i64 (.var 1))] .nil 0) = true := by decide +kernel

end Go.Dv.Pam
