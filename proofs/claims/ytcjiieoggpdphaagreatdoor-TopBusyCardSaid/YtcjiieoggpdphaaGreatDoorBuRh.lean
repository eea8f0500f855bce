/- TopBusy: what the kernel says of its runs, part 8. No condition. -/
import Derived.Test.YtcjiieoggpdphaaGreatDoorBuA
namespace Go.Exe
open Go
set_option maxRecDepth 1000000
theorem busyR_4_2_0 : busyRun 4 2 0 8 = true := by decide +kernel
theorem busyR_2_3_0 : busyRun 2 3 0 6 = true := by decide +kernel
end Go.Exe
