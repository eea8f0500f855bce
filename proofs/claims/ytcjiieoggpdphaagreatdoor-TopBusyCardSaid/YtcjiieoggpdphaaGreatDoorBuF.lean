/- TopBusy: all that the kernel says. No condition. -/
import Derived.Test.YtcjiieoggpdphaaGreatDoorBuA
import Derived.Test.YtcjiieoggpdphaaGreatDoorBuRz
import Derived.Test.YtcjiieoggpdphaaGreatDoorBuRa
import Derived.Test.YtcjiieoggpdphaaGreatDoorBuRb
import Derived.Test.YtcjiieoggpdphaaGreatDoorBuRc
import Derived.Test.YtcjiieoggpdphaaGreatDoorBuRd
import Derived.Test.YtcjiieoggpdphaaGreatDoorBuRe
import Derived.Test.YtcjiieoggpdphaaGreatDoorBuRf
import Derived.Test.YtcjiieoggpdphaaGreatDoorBuRg
import Derived.Test.YtcjiieoggpdphaaGreatDoorBuRh
import Derived.Test.YtcjiieoggpdphaaGreatDoorBuRi
import Derived.Test.YtcjiieoggpdphaaGreatDoorBuRj
import Derived.Test.YtcjiieoggpdphaaGreatDoorBuRk
import Derived.Test.YtcjiieoggpdphaaGreatDoorBuRl
namespace Go.Exe
open Go
theorem busyFacts : BusyFacts where
  A := busyA
  K := busyKk
  S := busySk
  D := fun k s h1 h2 h3 h4 => by
    have hk : k = 1 ∨ k = 2 ∨ k = 3 ∨ k = 4 := by omega
    have hs : s = 1 ∨ s = 2 ∨ s = 3 ∨ s = 4 ∨ s = 5 := by omega
    rcases hk with rfl | rfl | rfl | rfl <;> rcases hs with rfl | rfl | rfl | rfl | rfl
    · exact busyD_1_1
    · exact busyD_1_2
    · exact busyD_1_3
    · exact busyD_1_4
    · exact busyD_1_5
    · exact busyD_2_1
    · exact busyD_2_2
    · exact busyD_2_3
    · exact busyD_2_4
    · exact busyD_2_5
    · exact busyD_3_1
    · exact busyD_3_2
    · exact busyD_3_3
    · exact busyD_3_4
    · exact busyD_3_5
    · exact busyD_4_1
    · exact busyD_4_2
    · exact busyD_4_3
    · exact busyD_4_4
    · exact busyD_4_5
  R := fun k s h1 h2 h3 h4 j hj => by
    have hk : k = 1 ∨ k = 2 ∨ k = 3 ∨ k = 4 := by omega
    have hs : s = 1 ∨ s = 2 ∨ s = 3 ∨ s = 4 ∨ s = 5 := by omega
    rcases hk with rfl | rfl | rfl | rfl <;> rcases hs with rfl | rfl | rfl | rfl | rfl
    · exact ⟨0, 1, busyR_1_1_0, by omega, by omega⟩
    · exact ⟨0, 2, busyR_1_2_0, by omega, by omega⟩
    · exact ⟨0, 3, busyR_1_3_0, by omega, by omega⟩
    · exact ⟨0, 4, busyR_1_4_0, by omega, by omega⟩
    · exact ⟨0, 5, busyR_1_5_0, by omega, by omega⟩
    · exact ⟨0, 2, busyR_2_1_0, by omega, by omega⟩
    · exact ⟨0, 4, busyR_2_2_0, by omega, by omega⟩
    · exact ⟨0, 6, busyR_2_3_0, by omega, by omega⟩
    · exact ⟨0, 8, busyR_2_4_0, by omega, by omega⟩
    · exact ⟨0, 10, busyR_2_5_0, by omega, by omega⟩
    · exact ⟨0, 3, busyR_3_1_0, by omega, by omega⟩
    · exact ⟨0, 6, busyR_3_2_0, by omega, by omega⟩
    · exact ⟨0, 9, busyR_3_3_0, by omega, by omega⟩
    · by_cases h0 : j < 10
      · exact ⟨0, 10, busyR_3_4_0, by omega, by omega⟩
      exact ⟨10, 2, busyR_3_4_10, by omega, by omega⟩
    · by_cases h0 : j < 10
      · exact ⟨0, 10, busyR_3_5_0, by omega, by omega⟩
      exact ⟨10, 5, busyR_3_5_10, by omega, by omega⟩
    · exact ⟨0, 4, busyR_4_1_0, by omega, by omega⟩
    · exact ⟨0, 8, busyR_4_2_0, by omega, by omega⟩
    · by_cases h0 : j < 10
      · exact ⟨0, 10, busyR_4_3_0, by omega, by omega⟩
      exact ⟨10, 2, busyR_4_3_10, by omega, by omega⟩
    · by_cases h0 : j < 10
      · exact ⟨0, 10, busyR_4_4_0, by omega, by omega⟩
      exact ⟨10, 6, busyR_4_4_10, by omega, by omega⟩
    · by_cases h0 : j < 10
      · exact ⟨0, 10, busyR_4_5_0, by omega, by omega⟩
      exact ⟨10, 10, busyR_4_5_10, by omega, by omega⟩
end Go.Exe
