/- The law's runs. No condition. -/
import Derived.Test.YtjnllnigogpagadPuc
import Derived.KernelRfl
import Derived.Test.YtjnllnigogpagadUnrollCountsCodes
namespace Go.Dv.Puc
open Go.Df
set_option maxRecDepth 100000

theorem run74 : isTrueF (runR [] (tbl 74) (getK tree) 700 (.fn 3) [.d (.int .i64 (.var 0))] .nil 0) = true := by decide +kernel

theorem run75 : isTrueF (runR [] (tbl 75) (getK tree) 700 (.fn 3) [.d (.int .i64 (.var 0))] .nil 0) = true := by decide +kernel

theorem run76 : isTrueF (runR [] (tbl 76) (getK tree) 700 (.fn 3) [.d (.int .i64 (.var 0))] .nil 0) = true := by decide +kernel

theorem run77 : isTrueF (runR [] (tbl 77) (getK tree) 700 (.fn 3) [.d (.int .i64 (.var 0))] .nil 0) = true := by decide +kernel

end Go.Dv.Puc
