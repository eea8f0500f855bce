/- TopBreaks: what the kernel says of its runs, part 11. No condition. -/
import Derived.Test.YtcjiieoggpdphaaGreatDoorBrA
namespace Go.Exe
open Go
set_option maxRecDepth 1000000
theorem brkR_4_true_6 : brkRun 4 true 6 3 = true := by decide +kernel
theorem brkR_5_true_0 : brkRun 5 true 0 3 = true := by decide +kernel
end Go.Exe
