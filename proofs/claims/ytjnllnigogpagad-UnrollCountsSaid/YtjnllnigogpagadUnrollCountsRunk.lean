/- The law's runs. No condition. -/
import Derived.Test.YtjnllnigogpagadPuc
import Derived.KernelRfl
import Derived.Test.YtjnllnigogpagadUnrollCountsCodes
namespace Go.Dv.Puc
open Go.Df
set_option maxRecDepth 100000

theorem run82 : isTrueF (runR [] (tbl 82) (getK tree) 700 (.fn 3) [.d (.int .i64 (.var 0))] .nil 0) = true := by decide +kernel

theorem run83 : isTrueF (runR [] (tbl 83) (getK tree) 700 (.fn 3) [.d (.int .i64 (.var 0))] .nil 0) = true := by decide +kernel

theorem run84 : isTrueF (runR [] (tbl 84) (getK tree) 700 (.fn 3) [.d (.int .i64 (.var 0))] .nil 0) = true := by decide +kernel

theorem run85 : isTrueF (runR [] (tbl 85) (getK tree) 700 (.fn 3) [.d (.int .i64 (.var 0))] .nil 0) = true := by decide +kernel

end Go.Dv.Puc
