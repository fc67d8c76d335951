/- The law's run where it is true that the first number is 0. No condition. -/
import Derived.Test.YtpdgaigfmjfnoagPag
namespace Go.Dv.Pag
open Go.Df
set_option maxRecDepth 100000

theorem run0 : isTrueF (runK [(.eql, .var 0, .lit 0, true)] (getK tree) 300 (.fn 3) [.d (.int .i64 (.var 0)), .d (.int .i64 (.var 1))] .nil 0) = true := by decide +kernel

end Go.Dv.Pag
