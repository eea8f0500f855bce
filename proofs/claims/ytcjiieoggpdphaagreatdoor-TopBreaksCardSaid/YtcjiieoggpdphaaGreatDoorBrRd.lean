/- TopBreaks: what the kernel says of its runs, part 4. No condition. -/
import Derived.Test.YtcjiieoggpdphaaGreatDoorBrA
namespace Go.Exe
open Go
set_option maxRecDepth 1000000
theorem brkR_4_false_9 : brkRun 4 false 9 3 = true := by decide +kernel
theorem brkR_3_false_0 : brkRun 3 false 0 3 = true := by decide +kernel
end Go.Exe
