/- TopBreaks: what the kernel says of its runs, part 14. No condition. -/
import Derived.Test.YtcjiieoggpdphaaGreatDoorBrA
namespace Go.Exe
open Go
set_option maxRecDepth 1000000
theorem brkR_5_false_3 : brkRun 5 false 3 3 = true := by decide +kernel
theorem brkR_2_false_6 : brkRun 2 false 6 3 = true := by decide +kernel
end Go.Exe
