/- The law's run at false. No condition. -/
import Derived.Test.YtpdgaigfmjfnoajPaj
namespace Go.Dv.Paj
open Go.Df
set_option maxRecDepth 100000

theorem run0 : isTrueF (runF [] tree.get 300 (.fn 3) [.d (.bool false)] .nil 0) = true := by decide +kernel

end Go.Dv.Paj
