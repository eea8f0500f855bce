/- TopBusy: what the kernel says of its first statements. No condition. -/
import Derived.Test.YtcjiieoggpdphaaGreatDoorBuA
namespace Go.Exe
open Go
set_option maxRecDepth 1000000
theorem busyA : ends (preC 3 body3) [] = true := by decide +kernel
theorem busyKk : busyKs = true := by decide +kernel
theorem busySk : busySs = true := by decide +kernel
theorem busyD_1_1 : busyDs 1 1 = true := by decide +kernel
theorem busyD_1_2 : busyDs 1 2 = true := by decide +kernel
theorem busyD_1_3 : busyDs 1 3 = true := by decide +kernel
theorem busyD_1_4 : busyDs 1 4 = true := by decide +kernel
theorem busyD_1_5 : busyDs 1 5 = true := by decide +kernel
theorem busyD_2_1 : busyDs 2 1 = true := by decide +kernel
theorem busyD_2_2 : busyDs 2 2 = true := by decide +kernel
theorem busyD_2_3 : busyDs 2 3 = true := by decide +kernel
theorem busyD_2_4 : busyDs 2 4 = true := by decide +kernel
theorem busyD_2_5 : busyDs 2 5 = true := by decide +kernel
theorem busyD_3_1 : busyDs 3 1 = true := by decide +kernel
theorem busyD_3_2 : busyDs 3 2 = true := by decide +kernel
theorem busyD_3_3 : busyDs 3 3 = true := by decide +kernel
theorem busyD_3_4 : busyDs 3 4 = true := by decide +kernel
theorem busyD_3_5 : busyDs 3 5 = true := by decide +kernel
theorem busyD_4_1 : busyDs 4 1 = true := by decide +kernel
theorem busyD_4_2 : busyDs 4 2 = true := by decide +kernel
theorem busyD_4_3 : busyDs 4 3 = true := by decide +kernel
theorem busyD_4_4 : busyDs 4 4 = true := by decide +kernel
theorem busyD_4_5 : busyDs 4 5 = true := by decide +kernel
end Go.Exe
