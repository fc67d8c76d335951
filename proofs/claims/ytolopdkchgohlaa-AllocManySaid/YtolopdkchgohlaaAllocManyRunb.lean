/- The law's runs. No condition. -/
import Derived.Test.YtolopdkchgohlaaPam
import Derived.KernelRfl
import Derived.Test.YtolopdkchgohlaaAllocManyMod
namespace Go.Dv.Pam
open Go.Df
set_option maxRecDepth 100000

theorem run6_2 : isTrueF (runR [] (tbl 6 2) (getK tree) 400 (.fn 3) [.d (.int .i64 (.var 0)), .d (.int .i64 (.var 1))] .nil 0) = true := by decide +kernel

theorem run6_3 : isTrueF (runR [] (tbl 6 3) (getK tree) 400 (.fn 3) [.d (.int .i64 (.var 0)), .d (.int .i64 (.var 1))] .nil 0) = true := by decide +kernel

theorem run6_4 : isTrueF (runR [] (tbl 6 4) (getK tree) 400 (.fn 3) [.d (.int .i64 (.var 0)), .d (.int .i64 (.var 1))] .nil 0) = true := by decide +kernel

theorem run7_0 : isTrueF (runR [] (tbl 7 0) (getK tree) 400 (.fn 3) [.d (.int .i64 (.var 0)), .d (.int .i64 (.var 1))] .nil 0) = true := by decide +kernel

theorem run7_1 : isTrueF (runR [] (tbl 7 1) (getK tree) 400 (.fn 3) [.d (.int .i64 (.var 0)), .d (.int .i64 (.var 1))] .nil 0) = true := by decide +kernel

theorem run7_2 : isTrueF (runR [] (tbl 7 2) (getK tree) 400 (.fn 3) [.d (.int .i64 (.var 0)), .d (.int .i64 (.var 1))] .nil 0) = true := by decide +kernel

theorem run7_3 : isTrueF (runR [] (tbl 7 3) (getK tree) 400 (.fn 3) [.d (.int .i64 (.var 0)), .d (.int .i64 (.var 1))] .nil 0) = true := by decide +kernel

theorem run7_4 : isTrueF (runR [] (tbl 7 4) (getK tree) 400 (.fn 3) [.d (.int .i64 (.var 0)), .d (.int .i64 (.var 1))] .nil 0) = true := by decide +kernel

theorem run8_0 : isTrueF (runR [] (tbl 8 0) (getK tree) 400 (.fn 3) [.d (.int .i64 (.var 0)), .d (.int .i64 (.var 1))] .nil 0) = true := by decide +kernel

theorem run8_1 : isTrueF (runR [] (tbl 8 1) (getK tree) 400 (.fn 3) [.d (.int .i64 (.var 0)), .d (.int .i64 (.var 1))] .nil 0) = true := by decide +kernel

theorem run8_2 : isTrueF (runR [] (tbl 8 2) (getK tree) 400 (.fn 3) [.d (.int .i64 (.var 0)), .d (.int .i64 (.var 1))] .nil 0) = true := by decide +kernel

theorem run8_3 : isTrueF (runR [] (tbl 8 3) (getK tree) 400 (.fn 3) [.d (.int .i64 (.var 0)), .d (.int .i64 (.var 1))] .nil 0) = true := by decide +kernel

theorem run8_4 : isTrueF (runR [] (tbl 8 4) (getK tree) 400 (.fn 3) [.d (.int .i64 (.var 0)), .d (.int .i64 (.var 1))] .nil 0) = true := by decide +kernel

theorem run9_0 : isTrueF (runR [] (tbl 9 0) (getK tree) 400 (.fn 3) [.d (.int .i64 (.var 0)), .d (.int .i64 (.var 1))] .nil 0) = true := by decide +kernel

theorem run9_1 : isTrueF (runR [] (tbl 9 1) (getK tree) 400 (.fn 3) [.d (.int .i64 (.var 0)), .d (.int .i64 (.var 1))] .nil 0) = true := by decide +kernel

theorem run9_2 : isTrueF (runR [] (tbl 9 2) (getK tree) 400 (.fn 3) [.d (.int .i64 (.var 0)), .d (.int .i64 (.var 1))] .nil 0) = true := by decide +kernel

theorem run9_3 : isTrueF (runR [] (tbl 9 3) (getK tree) 400 (.fn 3) [.d (.int .i64 (.var 0)), .d (.int .i64 (.var 1))] .nil 0) = true := by decide +kernel

end Go.Dv.Pam
