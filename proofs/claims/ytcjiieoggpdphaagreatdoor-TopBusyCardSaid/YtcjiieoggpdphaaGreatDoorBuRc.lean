/- TopBusy: what the kernel says of its runs, part 3. No condition. -/
import Derived.Test.YtcjiieoggpdphaaGreatDoorBuA
namespace Go.Exe
open Go
set_option maxRecDepth 1000000
theorem busyR_4_4_0 : busyRun 4 4 0 10 = true := by decide +kernel
theorem busyR_2_1_0 : busyRun 2 1 0 2 = true := by decide +kernel
end Go.Exe
