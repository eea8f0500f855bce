/- header.Put: what it computes. No condition but that the numbers are of their kinds. -/
import Derived.Test.YtiehhoonfneccaaHC
import Derived.Test.YtiehhoonfneccaaWS
namespace Go.Proofs.Ytiehhoonfneccaa
open Go.RowKit
/-- A header's bytes. -/
def putH (V F S O L : Int) : List UInt8 := [UInt8.ofNat V.toNat, UInt8.ofNat F.toNat] ++ (putB (S % 65536) 2 ++ ([UInt8.ofNat O.toNat] ++ putB L 4))
theorem hput_bad (V F S O L : Int) (w : World) (hF0 : 0 ≤ F) (hF1 : F < 256) (h : ¬ chk V F O L = 0) :
    Calls Try.prog 16 #[hdr V F S O L] w fun e w' => e = .returned (.tuple #[.slice none 0 0, .int .i64 (chk V F O L)]) ∧ Below w.heap.size w w' := by
  generalize hc : chk V F O L = x at h
  go_enter Try.func16, Try.ntmps16
  go_wp2_with fail
  refine (check_any V F S O L _ hF0 hF1).mono ?_
  rintro e w1 ⟨rfl, hb⟩
  rw [hc]
  go_wp2_with fail
  go_ret2
  exact ⟨rfl, below_then (below_new (Below.refl _ _) _) hb⟩
theorem put_s {w w1 w' : World} {V F S O L : Int} (hlt : w.heap.size < w1.heap.size) (c0 : w1.cell? ⟨w.heap.size, 0, none⟩ = some (.int .u8 V)) (c1 : w1.cell? ⟨w.heap.size, 1, none⟩ = some (.int .u8 F)) (c2 : w1.cell? ⟨w.heap.size, 2, none⟩ = some (.int .i16 S)) (c3 : w1.cell? ⟨w.heap.size, 3, none⟩ = some (.int .u8 O)) (c4 : w1.cell? ⟨w.heap.size, 4, none⟩ = some (.int .u32 L))
    (hb : Below w1.heap.size w1 w') : w.heap.size < w'.heap.size ∧ w'.cell? ⟨w.heap.size, 0, none⟩ = some (.int .u8 V) ∧ w'.cell? ⟨w.heap.size, 1, none⟩ = some (.int .u8 F) ∧ w'.cell? ⟨w.heap.size, 2, none⟩ = some (.int .i16 S) ∧ w'.cell? ⟨w.heap.size, 3, none⟩ = some (.int .u8 O) ∧ w'.cell? ⟨w.heap.size, 4, none⟩ = some (.int .u32 L) := by
  have := hb.size
  exact ⟨by omega, (hb.cell (p := ⟨_, 0, none⟩) hlt).trans c0, (hb.cell (p := ⟨_, 1, none⟩) hlt).trans c1, (hb.cell (p := ⟨_, 2, none⟩) hlt).trans c2, (hb.cell (p := ⟨_, 3, none⟩) hlt).trans c3, (hb.cell (p := ⟨_, 4, none⟩) hlt).trans c4⟩
set_option maxHeartbeats 1600000 in
theorem hput_ok (V F S O L : Int) (w : World) (hV0 : 0 ≤ V) (hV1 : V < 256) (hF0 : 0 ≤ F) (hF1 : F < 256) (hO0 : 0 ≤ O) (hO1 : O < 256) (hL0 : 0 ≤ L) (hL1 : L < 4294967296) (h : chk V F O L = 0) :
    Calls Try.prog 16 #[hdr V F S O L] w fun e w' => ∃ v, e = .returned (.tuple #[v, .int .i64 0]) ∧ w'.ownsRow w.heap.size 5 1 v 9 (bv (putH V F S O L)) ∧ Below w.heap.size w w' := by
  have eS := Lib.hid (show IntKind.u64.wrap (IntKind.u16.wrap S) = S % 65536 by rw [IntKind.wrap_u64, IntKind.wrap_u16]; omega)
  have eL := Lib.hid (show IntKind.u64.wrap L = L by rw [IntKind.wrap_u64]; omega)
  go_enter Try.func16, Try.ntmps16
  go_wp2_with fail
  refine (check_any V F S O L _ hF0 hF1).mono ?_
  rintro e w1 ⟨rfl, hb⟩
  rw [h]
  obtain ⟨hlt, c0, c1, c2, c3, c4, hb0⟩ := box_kept hb
  go_wp2_with fail
  go_region_held3 (fun w' => w.heap.size < w'.heap.size ∧ w'.cell? ⟨w.heap.size, 0, none⟩ = some (.int .u8 V) ∧ w'.cell? ⟨w.heap.size, 1, none⟩ = some (.int .u8 F) ∧ w'.cell? ⟨w.heap.size, 2, none⟩ = some (.int .i16 S) ∧ w'.cell? ⟨w.heap.size, 3, none⟩ = some (.int .u8 O) ∧ w'.cell? ⟨w.heap.size, 4, none⟩ = some (.int .u32 L))
    (first | (refine put_s hlt c0 c1 c2 c3 c4 ?_; repeat' (first | exact Below.refl _ _ | assumption | refine below_new ?_ _ | refine Below.drew ?_ | refine below_then ?_ (by assumption))))
    (first | (go_at_call 33; refine (put_any _ _ _ (by omega) (by omega)).mono ?_; rintro e w2 ⟨v, rfl, hown, hbl⟩; (first | rw [eS.out] at hown | rw [eL.out] at hown); obtain ⟨A, c, rfl, hsw⟩ := SW.of_own hown) | (go_at_call 32; refine (concat4 (l1 := [UInt8.ofNat V.toNat, UInt8.ofNat F.toNat]) (l2 := putB (S % 65536) 2) (l3 := [UInt8.ofNat O.toNat]) (l4 := putB L 4) _ _ _ ?_ ?_ ?_ ?_ ?_ ?_).mono ?_; rotate_right; rintro e w3 ⟨v, rfl, hown, hbl3⟩; rotate_left; (first | rfl | simp); (repeat (first | assumption | (refine SW.lit1 _ _ _ _ ?_ hO0 hO1; (first | rfl | (focus (simp; done)))) | (refine SW.lit2 _ _ _ _ _ ?_ hV0 hV1 hF0 hF1; (first | rfl | (focus (simp; done)))) | refine SW.alloc ?_ _ | refine SW.drew ?_ | refine SW.then_ ?_ (by assumption))); decide))
  all_goals go_wp2_with fail
  all_goals go_ret2
  all_goals refine ⟨_, rfl, owns_mono hown (Nat.le_trans (Nat.le_of_lt hlt) (Below.size (B := w1.heap.size) (w := w1) ?_)), below_then hb0 ?_⟩
  all_goals (repeat' (first | exact Below.refl _ _ | assumption | refine below_new ?_ _ | refine Below.drew ?_ | refine below_then ?_ (by assumption)))
end Go.Proofs.Ytiehhoonfneccaa
