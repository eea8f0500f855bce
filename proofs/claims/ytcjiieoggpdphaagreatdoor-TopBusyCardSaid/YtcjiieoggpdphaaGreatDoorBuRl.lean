/- TopBusy: what the kernel says of its runs, part 12. No condition. -/
import Derived.Test.YtcjiieoggpdphaaGreatDoorBuA
namespace Go.Exe
open Go
set_option maxRecDepth 1000000
theorem busyR_2_4_0 : busyRun 2 4 0 8 = true := by decide +kernel
theorem busyR_4_3_10 : busyRun 4 3 10 2 = true := by decide +kernel
theorem busyR_1_1_0 : busyRun 1 1 0 1 = true := by decide +kernel
end Go.Exe
