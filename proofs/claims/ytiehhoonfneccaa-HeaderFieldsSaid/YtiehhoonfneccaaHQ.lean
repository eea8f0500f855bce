/- HeaderFields: the walk of two good headers, case 1 of 4. No condition but that the numbers are of their kinds. -/
import Derived.Test.YtiehhoonfneccaaHF
namespace Go.Proofs.Ytiehhoonfneccaa
open Go.RowKit
section
variable {V F S O L V2 F2 S2 O2 L2 : Int}
set_option maxHeartbeats 3200000 in
theorem fields_ok_ee (w : World) (hV0 : 0 ≤ V) (hV1 : V < 256) (hF0 : 0 ≤ F) (hF1 : F < 256) (hS0 : -32768 ≤ S) (hS1 : S < 32768) (hO0 : 0 ≤ O) (hO1 : O < 256) (hL0 : 0 ≤ L) (hL1 : L < 4294967296) (hV02 : 0 ≤ V2) (hV12 : V2 < 256) (hF02 : 0 ≤ F2) (hF12 : F2 < 256) (hS02 : -32768 ≤ S2) (hS12 : S2 < 32768) (hO02 : 0 ≤ O2) (hO12 : O2 < 256) (hL02 : 0 ≤ L2) (hL12 : L2 < 4294967296) (h : chk V F O L = 0) (h2 : chk V2 F2 O2 L2 = 0) (eS : S = S2) (eL : L = L2) :
    Calls Try.prog 6 #[hdr V F S O L, hdr V2 F2 S2 O2 L2] w fun e w' => e = .returned (.bool true) ∧ Below w.heap.size w w' := by
  subst eS
  subst eL
  go_enter Try.func6, Try.ntmps6
  go_wp2_with fail
  refine (awake5 _).mono ?_
  rintro e w1 ⟨rfl, hb1⟩
  obtain ⟨⟨x5, x0, x1, x2, x3, x4⟩, ⟨y5, y0, y1, y2, y3, y4⟩⟩ := two_s hb1
  go_wp2_with fail
  have hbt1 := hb1
  refine (hput_ok V F S O L _ hV0 hV1 hF0 hF1 hO0 hO1 hL0 hL1 h).mono ?_
  rintro e w2 ⟨v2, rfl, hown2, hb2⟩
  obtain ⟨A2, n2, rfl, sw2⟩ := SW.of_own hown2
  clear hown2
  have hbt2 := below_then hbt1 hb2
  clear x0 x1 x2 x3 x4 x5 y0 y1 y2 y3 y4 y5
  obtain ⟨⟨x5, x0, x1, x2, x3, x4⟩, ⟨y5, y0, y1, y2, y3, y4⟩⟩ := two_s hbt2
  go_wp2_with fail
  refine (hput_ok V2 F2 S O2 L _ hV02 hV12 hF02 hF12 hO02 hO12 hL02 hL12 h2).mono ?_
  rintro e w3 ⟨v3, rfl, hown3, hb3⟩
  obtain ⟨A3, n3, rfl, sw3⟩ := SW.of_own hown3
  clear hown3
  have hbt3 := below_then hbt2 hb3
  clear x0 x1 x2 x3 x4 x5 y0 y1 y2 y3 y4 y5
  obtain ⟨⟨x5, x0, x1, x2, x3, x4⟩, ⟨y5, y0, y1, y2, y3, y4⟩⟩ := two_s hbt3
  obtain ⟨b, o, X, Y, rfl, eX, eY, q1, q2, k0, k1, k4, s2, s5⟩ := field_bytes hV0 hV1 hF0 hF1 hS0 hS1 hO0 hO1 hL0 hL1 (sw2.then_ hb3)
  obtain ⟨b', o', X', Y', rfl, eX', eY', q1', q2', k0', k1', k4', s2', s5'⟩ := field_bytes hV02 hV12 hF02 hF12 hS02 hS12 hO02 hO12 hL02 hL12 sw3
  obtain rfl : X' = X := by rw [eX, eX']
  obtain rfl : Y' = Y := by rw [eY, eY']
  clear eX eY eX' eY'
  have z4 : (4 : Int) ≤ (n2 : Int) := by omega
  have z4' : (4 : Int) ≤ (n3 : Int) := by omega
  have z9 : (9 : Int) ≤ (n2 : Int) := by omega
  have z9' : (9 : Int) ≤ (n3 : Int) := by omega
  have y4 : 4 ≤ n2 := by omega
  have y4' : 4 ≤ n3 := by omega
  have u2 : ¬ n2 = 2 := by omega
  have u5 : ¬ n2 = 5 := by omega
  have u2' : ¬ n3 = 2 := by omega
  have u5' : ¬ n3 = 5 := by omega
  go_wp2_with fail
  go_quiet (fail)
  go_wp2_with fail
  go_ret
  refine ⟨ret_bool ?_, ?_⟩
  · simp
  · refine below_drewN ?_ _
    (repeat' (first | exact Below.refl _ _ | assumption | refine below_new ?_ _ | refine Below.drew ?_ | refine below_then ?_ (by assumption)))
end
end Go.Proofs.Ytiehhoonfneccaa
