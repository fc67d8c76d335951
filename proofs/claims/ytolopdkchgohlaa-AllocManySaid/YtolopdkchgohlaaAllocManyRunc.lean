/- The law's runs. No condition. -/
import Derived.Test.YtolopdkchgohlaaPam
import Derived.KernelRfl
import Derived.Test.YtolopdkchgohlaaAllocManyMod
namespace Go.Dv.Pam
open Go.Df
set_option maxRecDepth 100000

theorem run9_4 : isTrueF (runR [] (tbl 9 4) (getK tree) 400 (.fn 3) [.d (.int .i64 (.var 0)), .d (.int .i64 (.var 1))] .nil 0) = true := by decide +kernel

theorem run10_0 : isTrueF (runR [] (tbl 10 0) (getK tree) 400 (.fn 3) [.d (.int .i64 (.var 0)), .d (.int .i64 (.var 1))] .nil 0) = true := by decide +kernel

theorem run10_1 : isTrueF (runR [] (tbl 10 1) (getK tree) 400 (.fn 3) [.d (.int .i64 (.var 0)), .d (.int .i64 (.var 1))] .nil 0) = true := by decide +kernel

theorem run10_2 : isTrueF (runR [] (tbl 10 2) (getK tree) 400 (.fn 3) [.d (.int .i64 (.var 0)), .d (.int .i64 (.var 1))] .nil 0) = true := by decide +kernel

theorem run10_3 : isTrueF (runR [] (tbl 10 3) (getK tree) 400 (.fn 3) [.d (.int .i64 (.var 0)), .d (.int .i64 (.var 1))] .nil 0) = true := by decide +kernel

theorem run10_4 : isTrueF (runR [] (tbl 10 4) (getK tree) 400 (.fn 3) [.d (.int .i64 (.var 0)), .d (.int .i64 (.var 1))] .nil 0) = true := by decide +kernel

theorem run11_0 : isTrueF (runR [] (tbl 11 0) (getK tree) 400 (.fn 3) [.d (.int .i64 (.var 0)), .d (.int .i64 (.var 1))] .nil 0) = true := by decide +kernel

theorem run11_1 : isTrueF (runR [] (tbl 11 1) (getK tree) 400 (.fn 3) [.d (.int .i64 (.var 0)), .d (.int .i64 (.var 1))] .nil 0) = true := by decide +kernel

theorem run11_2 : isTrueF (runR [] (tbl 11 2) (getK tree) 400 (.fn 3) [.d (.int .i64 (.var 0)), .d (.int .i64 (.var 1))] .nil 0) = true := by decide +kernel

theorem run11_3 : isTrueF (runR [] (tbl 11 3) (getK tree) 400 (.fn 3) [.d (.int .i64 (.var 0)), .d (.int .i64 (.var 1))] .nil 0) = true := by decide +kernel

theorem run11_4 : isTrueF (runR [] (tbl 11 4) (getK tree) 400 (.fn 3) [.d (.int .i64 (.var 0)), .d (.int .i64 (.var 1))] .nil 0) = true := by decide +kernel

theorem run12_0 : isTrueF (runR [] (tbl 12 0) (getK tree) 400 (.fn 3) [.d (.int .i64 (.var 0)), .d (.int .i64 (.var 1))] .nil 0) = true := by decide +kernel

theorem run12_1 : isTrueF (runR [] (tbl 12 1) (getK tree) 400 (.fn 3) [.d (.int .i64 (.var 0)), .d (.int .i64 (.var 1))] .nil 0) = true := by decide +kernel

end Go.Dv.Pam
