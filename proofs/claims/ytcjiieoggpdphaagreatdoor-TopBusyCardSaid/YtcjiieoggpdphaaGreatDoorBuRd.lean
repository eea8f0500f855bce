/- TopBusy: what the kernel says of its runs, part 4. No condition. -/
import Derived.Test.YtcjiieoggpdphaaGreatDoorBuA
namespace Go.Exe
open Go
set_option maxRecDepth 1000000
theorem busyR_4_3_0 : busyRun 4 3 0 10 = true := by decide +kernel
theorem busyR_1_4_0 : busyRun 1 4 0 4 = true := by decide +kernel
end Go.Exe
