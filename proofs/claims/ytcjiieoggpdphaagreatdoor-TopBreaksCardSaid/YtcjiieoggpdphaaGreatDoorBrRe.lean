/- TopBreaks: what the kernel says of its runs, part 5. No condition. -/
import Derived.Test.YtcjiieoggpdphaaGreatDoorBrA
namespace Go.Exe
open Go
set_option maxRecDepth 1000000
theorem brkR_3_true_9 : brkRun 3 true 9 3 = true := by decide +kernel
theorem brkR_2_true_3 : brkRun 2 true 3 3 = true := by decide +kernel
end Go.Exe
