/- The law's run, its number unknown; what is taken to be known: the number and 0 make the number. No condition. -/
import Derived.Test.YtpdgaigfmjfnoakPak
namespace Go.Dv.Pak
open Go.Df
set_option maxRecDepth 100000

theorem run0 : isTrueF (runK [(.eql, .bin .add .i64 (.var 0) (.lit 0), .var 0, true)] (getK tree) 300 (.fn 3) [.d (.int .i64 (.var 0))] .nil 0) = true := by decide +kernel

end Go.Dv.Pak
