/- TopBreaks: all that the kernel says. No condition. -/
import Derived.Test.YtcjiieoggpdphaaGreatDoorBrA
import Derived.Test.YtcjiieoggpdphaaGreatDoorBrRz
import Derived.Test.YtcjiieoggpdphaaGreatDoorBrRa
import Derived.Test.YtcjiieoggpdphaaGreatDoorBrRb
import Derived.Test.YtcjiieoggpdphaaGreatDoorBrRc
import Derived.Test.YtcjiieoggpdphaaGreatDoorBrRd
import Derived.Test.YtcjiieoggpdphaaGreatDoorBrRe
import Derived.Test.YtcjiieoggpdphaaGreatDoorBrRf
import Derived.Test.YtcjiieoggpdphaaGreatDoorBrRg
import Derived.Test.YtcjiieoggpdphaaGreatDoorBrRh
import Derived.Test.YtcjiieoggpdphaaGreatDoorBrRi
import Derived.Test.YtcjiieoggpdphaaGreatDoorBrRj
import Derived.Test.YtcjiieoggpdphaaGreatDoorBrRk
import Derived.Test.YtcjiieoggpdphaaGreatDoorBrRl
import Derived.Test.YtcjiieoggpdphaaGreatDoorBrRm
import Derived.Test.YtcjiieoggpdphaaGreatDoorBrRn
import Derived.Test.YtcjiieoggpdphaaGreatDoorBrRo
import Derived.Test.YtcjiieoggpdphaaGreatDoorBrRp
namespace Go.Exe
open Go
theorem breaksFacts : BreaksFacts where
  A := brkA
  K := brkKk
  M := brkMk
  R := fun k again h1 h2 c hc => by
    have hk : k = 2 ∨ k = 3 ∨ k = 4 ∨ k = 5 := by omega
    rcases hk with rfl | rfl | rfl | rfl <;> cases again
    · by_cases h0 : c < 3
      · exact ⟨0, 3, brkR_2_false_0, by omega, by omega⟩
      by_cases h1 : c < 6
      · exact ⟨3, 3, brkR_2_false_3, by omega, by omega⟩
      by_cases h2 : c < 9
      · exact ⟨6, 3, brkR_2_false_6, by omega, by omega⟩
      exact ⟨9, 3, brkR_2_false_9, by omega, by omega⟩
    · by_cases h0 : c < 3
      · exact ⟨0, 3, brkR_2_true_0, by omega, by omega⟩
      by_cases h1 : c < 6
      · exact ⟨3, 3, brkR_2_true_3, by omega, by omega⟩
      by_cases h2 : c < 9
      · exact ⟨6, 3, brkR_2_true_6, by omega, by omega⟩
      exact ⟨9, 3, brkR_2_true_9, by omega, by omega⟩
    · by_cases h0 : c < 3
      · exact ⟨0, 3, brkR_3_false_0, by omega, by omega⟩
      by_cases h1 : c < 6
      · exact ⟨3, 3, brkR_3_false_3, by omega, by omega⟩
      by_cases h2 : c < 9
      · exact ⟨6, 3, brkR_3_false_6, by omega, by omega⟩
      exact ⟨9, 3, brkR_3_false_9, by omega, by omega⟩
    · by_cases h0 : c < 3
      · exact ⟨0, 3, brkR_3_true_0, by omega, by omega⟩
      by_cases h1 : c < 6
      · exact ⟨3, 3, brkR_3_true_3, by omega, by omega⟩
      by_cases h2 : c < 9
      · exact ⟨6, 3, brkR_3_true_6, by omega, by omega⟩
      exact ⟨9, 3, brkR_3_true_9, by omega, by omega⟩
    · by_cases h0 : c < 3
      · exact ⟨0, 3, brkR_4_false_0, by omega, by omega⟩
      by_cases h1 : c < 6
      · exact ⟨3, 3, brkR_4_false_3, by omega, by omega⟩
      by_cases h2 : c < 9
      · exact ⟨6, 3, brkR_4_false_6, by omega, by omega⟩
      exact ⟨9, 3, brkR_4_false_9, by omega, by omega⟩
    · by_cases h0 : c < 3
      · exact ⟨0, 3, brkR_4_true_0, by omega, by omega⟩
      by_cases h1 : c < 6
      · exact ⟨3, 3, brkR_4_true_3, by omega, by omega⟩
      by_cases h2 : c < 9
      · exact ⟨6, 3, brkR_4_true_6, by omega, by omega⟩
      exact ⟨9, 3, brkR_4_true_9, by omega, by omega⟩
    · by_cases h0 : c < 3
      · exact ⟨0, 3, brkR_5_false_0, by omega, by omega⟩
      by_cases h1 : c < 6
      · exact ⟨3, 3, brkR_5_false_3, by omega, by omega⟩
      by_cases h2 : c < 9
      · exact ⟨6, 3, brkR_5_false_6, by omega, by omega⟩
      exact ⟨9, 3, brkR_5_false_9, by omega, by omega⟩
    · by_cases h0 : c < 3
      · exact ⟨0, 3, brkR_5_true_0, by omega, by omega⟩
      by_cases h1 : c < 6
      · exact ⟨3, 3, brkR_5_true_3, by omega, by omega⟩
      by_cases h2 : c < 9
      · exact ⟨6, 3, brkR_5_true_6, by omega, by omega⟩
      exact ⟨9, 3, brkR_5_true_9, by omega, by omega⟩
end Go.Exe
