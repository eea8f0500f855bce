/- TopBreaks: what the kernel says of its runs, part 6. No condition. -/
import Derived.Test.YtcjiieoggpdphaaGreatDoorBrA
namespace Go.Exe
open Go
set_option maxRecDepth 1000000
theorem brkR_3_false_9 : brkRun 3 false 9 3 = true := by decide +kernel
theorem brkR_2_false_3 : brkRun 2 false 3 3 = true := by decide +kernel
end Go.Exe
