/- TopBreaks: what the kernel says of its runs, part 2. No condition. -/
import Derived.Test.YtcjiieoggpdphaaGreatDoorBrA
namespace Go.Exe
open Go
set_option maxRecDepth 1000000
theorem brkR_5_false_9 : brkRun 5 false 9 3 = true := by decide +kernel
theorem brkR_2_false_0 : brkRun 2 false 0 3 = true := by decide +kernel
end Go.Exe
