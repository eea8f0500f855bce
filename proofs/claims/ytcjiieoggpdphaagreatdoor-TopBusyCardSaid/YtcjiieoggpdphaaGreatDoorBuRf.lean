/- TopBusy: what the kernel says of its runs, part 6. No condition. -/
import Derived.Test.YtcjiieoggpdphaaGreatDoorBuA
namespace Go.Exe
open Go
set_option maxRecDepth 1000000
theorem busyR_3_4_0 : busyRun 3 4 0 10 = true := by decide +kernel
theorem busyR_2_2_0 : busyRun 2 2 0 4 = true := by decide +kernel
end Go.Exe
