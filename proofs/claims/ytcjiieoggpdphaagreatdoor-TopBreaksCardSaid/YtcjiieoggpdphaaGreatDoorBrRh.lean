/- TopBreaks: what the kernel says of its runs, part 8. No condition. -/
import Derived.Test.YtcjiieoggpdphaaGreatDoorBrA
namespace Go.Exe
open Go
set_option maxRecDepth 1000000
theorem brkR_2_false_9 : brkRun 2 false 9 3 = true := by decide +kernel
theorem brkR_4_false_0 : brkRun 4 false 0 3 = true := by decide +kernel
end Go.Exe
