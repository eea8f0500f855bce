/- awake of chapter 1 answers true. No condition. -/
import Derived.Test.YtkjgaibkajafaaaOF
namespace Go.Proofs.Ytkjgaibkajafaaa
open Go.RowKit
set_option maxHeartbeats 800000 in
theorem awake_any (w : World) : Calls Try.prog 8 #[] w fun e w' => e = .returned (.bool true) ∧ Below w.heap.size w w' := by
  go_enter Try.func8, Try.ntmps8
  go_wp2_with fail
  refine (put_any 258 2 _ (by omega) (by omega)).mono ?_
  rintro e w1 ⟨v, rfl, hown, hb⟩
  have e1 : putB 258 (Int.toNat 2) = [1, 2] := by decide
  rw [e1] at hown
  obtain ⟨A, c, rfl, hbs⟩ := BS.of_own hown
  obtain ⟨b, o, rfl, hbB, hcell⟩ := hbs.at_ (by decide)
  have c0 : w1.cell? ⟨b, o, none⟩ = some (.int .u8 1) := by simpa using hcell 0 (by decide)
  have c1 : w1.cell? ⟨b, o + 1, none⟩ = some (.int .u8 2) := by simpa using hcell 1 (by decide)
  clear hcell e1
  go_wp2_with fail
  refine (get_any (l := [1, 2, 3]) (B := w1.heap.size + 1) 2 _ (BS.lit _ 5 [1, 2, 3] #[.int .u8 1, .int .u8 2, .int .u8 3] rfl 3 rfl (by decide)) (by omega) (by omega) (by omega)).mono ?_
  rintro e w2 ⟨A2, q, rfl, hbs2, rfl⟩
  have e2 : getV (List.take (Int.toNat 2) [1, 2, 3]) = 258 := by decide
  rw [e2]
  go_wp2_with fail
  refine (take_any (l := [1, 2, 3]) 2 _ ?_ (by omega) (by omega) (by omega)).mono ?_
  · have := BS.lit ((w1.alloc (.cells #[.int .u8 1, .int .u8 2, .int .u8 3] 5)).drewN q) 5 [1, 2, 3] #[.int .u8 1, .int .u8 2, .int .u8 3] rfl 3 rfl (by decide)
    simpa using this
  rintro e w3 ⟨v3, A3, rfl, hown3, hbs3, hb3⟩
  obtain ⟨A4, c4, rfl, hbs4⟩ := BS.of_own hown3
  obtain ⟨hc, hf⟩ := bcell hb3
  have hb13 : b < w1.heap.size + 1 + 1 := by omega
  go_wp2_with fail
  refine (signed_any 65535 2 _ (by omega) (by omega) (by omega) (by omega)).mono ?_
  rintro e w4 ⟨rfl, rfl⟩
  rw [show sgn 65535 (Int.toNat 2) = -1 from by decide]
  go_wp2_with fail
  go_ret
  exact ⟨rfl, below_then (below_new (below_drewN (below_new hb _) _) _) hb3⟩
end Go.Proofs.Ytkjgaibkajafaaa
