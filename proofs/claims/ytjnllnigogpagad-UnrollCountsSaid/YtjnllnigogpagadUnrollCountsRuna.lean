/- The law's runs. No condition. -/
import Derived.Test.YtjnllnigogpagadPuc
import Derived.KernelRfl
import Derived.Test.YtjnllnigogpagadUnrollCountsCodes
namespace Go.Dv.Puc
open Go.Df
set_option maxRecDepth 100000

theorem run0 : isTrueF (runR [] (tbl 0) (getK tree) 700 (.fn 3) [.d (.int .i64 (.var 0))] .nil 0) = true := by decide +kernel

theorem run1 : isTrueF (runR [] (tbl 1) (getK tree) 700 (.fn 3) [.d (.int .i64 (.var 0))] .nil 0) = true := by decide +kernel

theorem run2 : isTrueF (runR [] (tbl 2) (getK tree) 700 (.fn 3) [.d (.int .i64 (.var 0))] .nil 0) = true := by decide +kernel

theorem run3 : isTrueF (runR [] (tbl 3) (getK tree) 700 (.fn 3) [.d (.int .i64 (.var 0))] .nil 0) = true := by decide +kernel

theorem run4 : isTrueF (runR [] (tbl 4) (getK tree) 700 (.fn 3) [.d (.int .i64 (.var 0))] .nil 0) = true := by decide +kernel

theorem run5 : isTrueF (runR [] (tbl 5) (getK tree) 700 (.fn 3) [.d (.int .i64 (.var 0))] .nil 0) = true := by decide +kernel

theorem run6 : isTrueF (runR [] (tbl 6) (getK tree) 700 (.fn 3) [.d (.int .i64 (.var 0))] .nil 0) = true := by decide +kernel

theorem run7 : isTrueF (runR [] (tbl 7) (getK tree) 700 (.fn 3) [.d (.int .i64 (.var 0))] .nil 0) = true := by decide +kernel

theorem run8 : isTrueF (runR [] (tbl 8) (getK tree) 700 (.fn 3) [.d (.int .i64 (.var 0))] .nil 0) = true := by decide +kernel

theorem run9 : isTrueF (runR [] (tbl 9) (getK tree) 700 (.fn 3) [.d (.int .i64 (.var 0))] .nil 0) = true := by decide +kernel

theorem run10 : isTrueF (runR [] (tbl 10) (getK tree) 700 (.fn 3) [.d (.int .i64 (.var 0))] .nil 0) = true := by decide +kernel

theorem run11 : isTrueF (runR [] (tbl 11) (getK tree) 700 (.fn 3) [.d (.int .i64 (.var 0))] .nil 0) = true := by decide +kernel

theorem run12 : isTrueF (runR [] (tbl 12) (getK tree) 700 (.fn 3) [.d (.int .i64 (.var 0))] .nil 0) = true := by decide +kernel

theorem run13 : isTrueF (runR [] (tbl 13) (getK tree) 700 (.fn 3) [.d (.int .i64 (.var 0))] .nil 0) = true := by decide +kernel

theorem run14 : isTrueF (runR [] (tbl 14) (getK tree) 700 (.fn 3) [.d (.int .i64 (.var 0))] .nil 0) = true := by decide +kernel

theorem run15 : isTrueF (runR [] (tbl 15) (getK tree) 700 (.fn 3) [.d (.int .i64 (.var 0))] .nil 0) = true := by decide +kernel

theorem run16 : isTrueF (runR [] (tbl 16) (getK tree) 700 (.fn 3) [.d (.int .i64 (.var 0))] .nil 0) = true := by decide +kernel

theorem run17 : isTrueF (runR [] (tbl 17) (getK tree) 700 (.fn 3) [.d (.int .i64 (.var 0))] .nil 0) = true := by decide +kernel

theorem run18 : isTrueF (runR [] (tbl 18) (getK tree) 700 (.fn 3) [.d (.int .i64 (.var 0))] .nil 0) = true := by decide +kernel

theorem run19 : isTrueF (runR [] (tbl 19) (getK tree) 700 (.fn 3) [.d (.int .i64 (.var 0))] .nil 0) = true := by decide +kernel

theorem run20 : isTrueF (runR [] (tbl 20) (getK tree) 700 (.fn 3) [.d (.int .i64 (.var 0))] .nil 0) = true := by decide +kernel

theorem run21 : isTrueF (runR [] (tbl 21) (getK tree) 700 (.fn 3) [.d (.int .i64 (.var 0))] .nil 0) = true := by decide +kernel

theorem run22 : isTrueF (runR [] (tbl 22) (getK tree) 700 (.fn 3) [.d (.int .i64 (.var 0))] .nil 0) = true := by decide +kernel

theorem run23 : isTrueF (runR [] (tbl 23) (getK tree) 700 (.fn 3) [.d (.int .i64 (.var 0))] .nil 0) = true := by decide +kernel

theorem run24 : isTrueF (runR [] (tbl 24) (getK tree) 700 (.fn 3) [.d (.int .i64 (.var 0))] .nil 0) = true := by decide +kernel

theorem run25 : isTrueF (runR [] (tbl 25) (getK tree) 700 (.fn 3) [.d (.int .i64 (.var 0))] .nil 0) = true := by decide +kernel

end Go.Dv.Puc
