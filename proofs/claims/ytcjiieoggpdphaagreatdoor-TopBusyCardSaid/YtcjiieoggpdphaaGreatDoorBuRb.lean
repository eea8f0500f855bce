/- TopBusy: what the kernel says of its runs, part 2. No condition. -/
import Derived.Test.YtcjiieoggpdphaaGreatDoorBuA
namespace Go.Exe
open Go
set_option maxRecDepth 1000000
theorem busyR_4_5_10 : busyRun 4 5 10 10 = true := by decide +kernel
theorem busyR_1_2_0 : busyRun 1 2 0 2 = true := by decide +kernel
end Go.Exe
