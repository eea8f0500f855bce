/- TopBreaks: what the kernel says of its runs, part 9. No condition. -/
import Derived.Test.YtcjiieoggpdphaaGreatDoorBrA
namespace Go.Exe
open Go
set_option maxRecDepth 1000000
theorem brkR_5_true_6 : brkRun 5 true 6 3 = true := by decide +kernel
theorem brkR_3_true_3 : brkRun 3 true 3 3 = true := by decide +kernel
end Go.Exe
