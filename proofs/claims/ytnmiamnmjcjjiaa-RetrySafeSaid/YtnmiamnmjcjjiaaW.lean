/- awake of chapter 17 answers true. No condition. -/
import Derived.Test.YtnmiamnmjcjjiaaC
import Derived.Deep.RegionHeld3
import Derived.Deep.QuietTactic
import Derived.BigQuiet
namespace Go.Proofs.Ytnmiamnmjcjjiaa
open Go.RowKit
set_option maxHeartbeats 800000 in
theorem awake_any (w : World) : Calls Try.prog 6 #[] w fun e w' => e = .returned (.bool true) ∧ Below w.heap.size w w' := by
  go_enter Try.func6, Try.ntmps6
  go_wp2
  go_ret
  exact ⟨rfl, by repeat (first | exact Below.refl _ _ | refine below_new ?_ _)⟩
end Go.Proofs.Ytnmiamnmjcjjiaa
