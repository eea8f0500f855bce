/- Closed facts of the program, each by itself. No condition. -/
import Derived.Test.YtcjiieoggpdphaaGreatDoorRows
import Derived.ProofKit
namespace Go.Proofs.YtcjiieoggpdphaaGreatDoor
open Go
theorem prog2 : (mapsRowed Tryz.prog : Bool) = true := by kernel_rfl
theorem prog6 : ((Tryz.prog.stops == []) : Bool) = true := by kernel_rfl
theorem prog8 : ((Tryz.prog.stopKnobs == []) : Bool) = true := by kernel_rfl
theorem prog24 : (Tryz.prog.stopsHeard : Bool) = true := by kernel_rfl
theorem prog25 : (Tryz.prog.mayEnter : Bool) = true := by kernel_rfl
end Go.Proofs.YtcjiieoggpdphaaGreatDoor
