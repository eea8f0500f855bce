/- HeaderFields: the walk, all cases. No condition but that the numbers are of their kinds. -/
import Derived.Test.YtiehhoonfneccaaHQ
import Derived.Test.YtiehhoonfneccaaHS
import Derived.Test.YtiehhoonfneccaaHT
import Derived.Test.YtiehhoonfneccaaHU
namespace Go.Proofs.Ytiehhoonfneccaa
open Go.RowKit
section
variable {V F S O L V2 F2 S2 O2 L2 : Int}
theorem fields_any (w : World) (hV0 : 0 ≤ V) (hV1 : V < 256) (hF0 : 0 ≤ F) (hF1 : F < 256) (hS0 : -32768 ≤ S) (hS1 : S < 32768) (hO0 : 0 ≤ O) (hO1 : O < 256) (hL0 : 0 ≤ L) (hL1 : L < 4294967296) (hV02 : 0 ≤ V2) (hV12 : V2 < 256) (hF02 : 0 ≤ F2) (hF12 : F2 < 256) (hS02 : -32768 ≤ S2) (hS12 : S2 < 32768) (hO02 : 0 ≤ O2) (hO12 : O2 < 256) (hL02 : 0 ≤ L2) (hL12 : L2 < 4294967296) :
    Calls Try.prog 6 #[hdr V F S O L, hdr V2 F2 S2 O2 L2] w fun e w' => e = .returned (.bool true) ∧ Below w.heap.size w w' := by
  by_cases h : chk V F O L = 0
  · by_cases h2 : chk V2 F2 O2 L2 = 0
    · by_cases eS : S = S2
      · by_cases eL : L = L2
        · exact fields_ok_ee w hV0 hV1 hF0 hF1 hS0 hS1 hO0 hO1 hL0 hL1 hV02 hV12 hF02 hF12 hS02 hS12 hO02 hO12 hL02 hL12 h h2 eS eL
        · exact fields_ok_en w hV0 hV1 hF0 hF1 hS0 hS1 hO0 hO1 hL0 hL1 hV02 hV12 hF02 hF12 hS02 hS12 hO02 hO12 hL02 hL12 h h2 eS eL
      · by_cases eL : L = L2
        · exact fields_ok_ne w hV0 hV1 hF0 hF1 hS0 hS1 hO0 hO1 hL0 hL1 hV02 hV12 hF02 hF12 hS02 hS12 hO02 hO12 hL02 hL12 h h2 eS eL
        · exact fields_ok_nn w hV0 hV1 hF0 hF1 hS0 hS1 hO0 hO1 hL0 hL1 hV02 hV12 hF02 hF12 hS02 hS12 hO02 hO12 hL02 hL12 h h2 eS eL
    · exact fields_b_bad w hV0 hV1 hF0 hF1 hS0 hS1 hO0 hO1 hL0 hL1 hV02 hV12 hF02 hF12 hS02 hS12 hO02 hO12 hL02 hL12 h h2
  · by_cases h2 : chk V2 F2 O2 L2 = 0
    · exact fields_a_bad w hV0 hV1 hF0 hF1 hS0 hS1 hO0 hO1 hL0 hL1 hV02 hV12 hF02 hF12 hS02 hS12 hO02 hO12 hL02 hL12 h h2
    · exact fields_ab_bad w hV0 hV1 hF0 hF1 hS0 hS1 hO0 hO1 hL0 hL1 hV02 hV12 hF02 hF12 hS02 hS12 hO02 hO12 hL02 hL12 h h2
end
end Go.Proofs.Ytiehhoonfneccaa
