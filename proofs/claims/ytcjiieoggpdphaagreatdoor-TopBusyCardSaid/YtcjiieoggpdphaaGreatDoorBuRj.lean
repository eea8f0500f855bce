/- TopBusy: what the kernel says of its runs, part 10. No condition. -/
import Derived.Test.YtcjiieoggpdphaaGreatDoorBuA
namespace Go.Exe
open Go
set_option maxRecDepth 1000000
theorem busyR_2_5_0 : busyRun 2 5 0 10 = true := by decide +kernel
theorem busyR_3_4_10 : busyRun 3 4 10 2 = true := by decide +kernel
end Go.Exe
