/- The law's runs. No condition. -/
import Derived.Test.YtolopdkchgohlaaPam
import Derived.KernelRfl
import Derived.Test.YtolopdkchgohlaaAllocManyMod
namespace Go.Dv.Pam
open Go.Df
set_option maxRecDepth 100000

theorem run12_2 : isTrueF (runR [] (tbl 12 2) (getK tree) 400 (.fn 3) [.d (.int .i64 (.var 0)), .d (.int .i64 (.var 1))] .nil 0) = true := by decide +kernel

theorem run12_3 : isTrueF (runR [] (tbl 12 3) (getK tree) 400 (.fn 3) [.d (.int .i64 (.var 0)), .d (.int .i64 (.var 1))] .nil 0) = true := by decide +kernel

theorem run12_4 : isTrueF (runR [] (tbl 12 4) (getK tree) 400 (.fn 3) [.d (.int .i64 (.var 0)), .d (.int .i64 (.var 1))] .nil 0) = true := by decide +kernel

theorem run13_0 : isTrueF (runR [] (tbl 13 0) (getK tree) 400 (.fn 3) [.d (.int .i64 (.var 0)), .d (.int .i64 (.var 1))] .nil 0) = true := by decide +kernel

theorem run13_1 : isTrueF (runR [] (tbl 13 1) (getK tree) 400 (.fn 3) [.d (.int .i64 (.var 0)), .d (.int .i64 (.var 1))] .nil 0) = true := by decide +kernel

theorem run13_2 : isTrueF (runR [] (tbl 13 2) (getK tree) 400 (.fn 3) [.d (.int .i64 (.var 0)), .d (.int .i64 (.var 1))] .nil 0) = true := by decide +kernel

theorem run13_3 : isTrueF (runR [] (tbl 13 3) (getK tree) 400 (.fn 3) [.d (.int .i64 (.var 0)), .d (.int .i64 (.var 1))] .nil 0) = true := by decide +kernel

theorem run13_4 : isTrueF (runR [] (tbl 13 4) (getK tree) 400 (.fn 3) [.d (.int .i64 (.var 0)), .d (.int .i64 (.var 1))] .nil 0) = true := by decide +kernel

theorem run14_0 : isTrueF (runR [] (tbl 14 0) (getK tree) 400 (.fn 3) [.d (.int .i64 (.var 0)), .d (.int .i64 (.var 1))] .nil 0) = true := by decide +kernel

theorem run14_1 : isTrueF (runR [] (tbl 14 1) (getK tree) 400 (.fn 3) [.d (.int .i64 (.var 0)), .d (.int .i64 (.var 1))] .nil 0) = true := by decide +kernel

theorem run14_2 : isTrueF (runR [] (tbl 14 2) (getK tree) 400 (.fn 3) [.d (.int .i64 (.var 0)), .d (.int .i64 (.var 1))] .nil 0) = true := by decide +kernel

end Go.Dv.Pam
