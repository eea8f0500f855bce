/- TopBusy: what the kernel says of its runs, part 7. No condition. -/
import Derived.Test.YtcjiieoggpdphaaGreatDoorBuA
namespace Go.Exe
open Go
set_option maxRecDepth 1000000
theorem busyR_4_4_10 : busyRun 4 4 10 6 = true := by decide +kernel
theorem busyR_3_1_0 : busyRun 3 1 0 3 = true := by decide +kernel
end Go.Exe
