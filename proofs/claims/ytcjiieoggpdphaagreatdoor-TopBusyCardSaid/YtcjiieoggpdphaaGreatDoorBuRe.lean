/- TopBusy: what the kernel says of its runs, part 5. No condition. -/
import Derived.Test.YtcjiieoggpdphaaGreatDoorBuA
namespace Go.Exe
open Go
set_option maxRecDepth 1000000
theorem busyR_3_5_0 : busyRun 3 5 0 10 = true := by decide +kernel
theorem busyR_1_5_0 : busyRun 1 5 0 5 = true := by decide +kernel
end Go.Exe
