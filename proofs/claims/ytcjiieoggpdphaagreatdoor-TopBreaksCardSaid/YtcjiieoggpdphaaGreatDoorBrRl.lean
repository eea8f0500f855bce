/- TopBreaks: what the kernel says of its runs, part 12. No condition. -/
import Derived.Test.YtcjiieoggpdphaaGreatDoorBrA
namespace Go.Exe
open Go
set_option maxRecDepth 1000000
theorem brkR_4_false_6 : brkRun 4 false 6 3 = true := by decide +kernel
theorem brkR_5_false_0 : brkRun 5 false 0 3 = true := by decide +kernel
end Go.Exe
