/- TopBreaks: what the kernel says of its first statements. No condition. -/
import Derived.Test.YtcjiieoggpdphaaGreatDoorBrA
namespace Go.Exe
open Go
set_option maxRecDepth 1000000
theorem brkA : ends (preC 3 body4) [] = true := by decide +kernel
theorem brkKk : brkKs = true := by decide +kernel
theorem brkMk : brkMs = true := by decide +kernel
end Go.Exe
