/- The law's runs. No condition. -/
import Derived.Test.YtjnllnigogpagadPuc
import Derived.KernelRfl
import Derived.Test.YtjnllnigogpagadUnrollCountsCodes
namespace Go.Dv.Puc
open Go.Df
set_option maxRecDepth 100000

theorem run58 : isTrueF (runR [] (tbl 58) (getK tree) 700 (.fn 3) [.d (.int .i64 (.var 0))] .nil 0) = true := by decide +kernel

theorem run59 : isTrueF (runR [] (tbl 59) (getK tree) 700 (.fn 3) [.d (.int .i64 (.var 0))] .nil 0) = true := by decide +kernel

theorem run60 : isTrueF (runR [] (tbl 60) (getK tree) 700 (.fn 3) [.d (.int .i64 (.var 0))] .nil 0) = true := by decide +kernel

theorem run61 : isTrueF (runR [] (tbl 61) (getK tree) 700 (.fn 3) [.d (.int .i64 (.var 0))] .nil 0) = true := by decide +kernel

theorem run62 : isTrueF (runR [] (tbl 62) (getK tree) 700 (.fn 3) [.d (.int .i64 (.var 0))] .nil 0) = true := by decide +kernel

theorem run63 : isTrueF (runR [] (tbl 63) (getK tree) 700 (.fn 3) [.d (.int .i64 (.var 0))] .nil 0) = true := by decide +kernel

end Go.Dv.Puc
