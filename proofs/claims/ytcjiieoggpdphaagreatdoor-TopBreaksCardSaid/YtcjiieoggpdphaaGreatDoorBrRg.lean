/- TopBreaks: what the kernel says of its runs, part 7. No condition. -/
import Derived.Test.YtcjiieoggpdphaaGreatDoorBrA
namespace Go.Exe
open Go
set_option maxRecDepth 1000000
theorem brkR_2_true_9 : brkRun 2 true 9 3 = true := by decide +kernel
theorem brkR_4_true_0 : brkRun 4 true 0 3 = true := by decide +kernel
end Go.Exe
