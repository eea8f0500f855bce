/- TopBreaks: what the kernel says of its runs, part 10. No condition. -/
import Derived.Test.YtcjiieoggpdphaaGreatDoorBrA
namespace Go.Exe
open Go
set_option maxRecDepth 1000000
theorem brkR_5_false_6 : brkRun 5 false 6 3 = true := by decide +kernel
theorem brkR_3_false_3 : brkRun 3 false 3 3 = true := by decide +kernel
end Go.Exe
