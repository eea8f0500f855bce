/- TopBusy: what the kernel says of its runs, part 1. No condition. -/
import Derived.Test.YtcjiieoggpdphaaGreatDoorBuA
namespace Go.Exe
open Go
set_option maxRecDepth 1000000
theorem busyR_4_5_0 : busyRun 4 5 0 10 = true := by decide +kernel
theorem busyR_1_3_0 : busyRun 1 3 0 3 = true := by decide +kernel
end Go.Exe
