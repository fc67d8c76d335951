/- The law's runs. No condition. -/
import Derived.Test.YtjnllnigogpagadPuc
import Derived.KernelRfl
import Derived.Test.YtjnllnigogpagadUnrollCountsCodes
namespace Go.Dv.Puc
open Go.Df
set_option maxRecDepth 100000

theorem run45 : isTrueF (runR [] (tbl 45) (getK tree) 700 (.fn 3) [.d (.int .i64 (.var 0))] .nil 0) = true := by decide +kernel

theorem run46 : isTrueF (runR [] (tbl 46) (getK tree) 700 (.fn 3) [.d (.int .i64 (.var 0))] .nil 0) = true := by decide +kernel

theorem run47 : isTrueF (runR [] (tbl 47) (getK tree) 700 (.fn 3) [.d (.int .i64 (.var 0))] .nil 0) = true := by decide +kernel

theorem run48 : isTrueF (runR [] (tbl 48) (getK tree) 700 (.fn 3) [.d (.int .i64 (.var 0))] .nil 0) = true := by decide +kernel

theorem run49 : isTrueF (runR [] (tbl 49) (getK tree) 700 (.fn 3) [.d (.int .i64 (.var 0))] .nil 0) = true := by decide +kernel

theorem run50 : isTrueF (runR [] (tbl 50) (getK tree) 700 (.fn 3) [.d (.int .i64 (.var 0))] .nil 0) = true := by decide +kernel

theorem run51 : isTrueF (runR [] (tbl 51) (getK tree) 700 (.fn 3) [.d (.int .i64 (.var 0))] .nil 0) = true := by decide +kernel

end Go.Dv.Puc
