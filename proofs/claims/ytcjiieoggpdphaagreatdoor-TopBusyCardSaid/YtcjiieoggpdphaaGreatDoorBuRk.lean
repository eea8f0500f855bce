/- TopBusy: what the kernel says of its runs, part 11. No condition. -/
import Derived.Test.YtcjiieoggpdphaaGreatDoorBuA
namespace Go.Exe
open Go
set_option maxRecDepth 1000000
theorem busyR_3_5_10 : busyRun 3 5 10 5 = true := by decide +kernel
theorem busyR_3_2_0 : busyRun 3 2 0 6 = true := by decide +kernel
end Go.Exe
