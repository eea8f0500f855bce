/- TopBusy: what the kernel says of its runs, part 9. No condition. -/
import Derived.Test.YtcjiieoggpdphaaGreatDoorBuA
namespace Go.Exe
open Go
set_option maxRecDepth 1000000
theorem busyR_3_3_0 : busyRun 3 3 0 9 = true := by decide +kernel
theorem busyR_4_1_0 : busyRun 4 1 0 4 = true := by decide +kernel
end Go.Exe
