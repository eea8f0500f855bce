/- The document's Put: what it computes. No condition but that the numbers are of their kinds. -/
import Derived.Test.YtiehhoonfneccaaHE
namespace Go.Proofs.Ytiehhoonfneccaa
open Go.RowKit
theorem rput_bad (V F S O L : Int) (w : World) (hF0 : 0 ≤ F) (hF1 : F < 256) (h : ¬ chk V F O L = 0) :
    Calls Try.prog 17 #[hdr V F S O L] w fun e w' => e = .returned (.tuple #[.slice none 0 0, .int .i64 (chk V F O L)]) ∧ Below w.heap.size w w' := by
  generalize hc : chk V F O L = x at h
  go_enter Try.func17, Try.ntmps17
  go_wp2_with fail
  refine (rcheck_any V F S O L _ hF0 hF1).mono ?_
  rintro e w1 ⟨rfl, hb⟩
  rw [hc]
  go_wp2_with fail
  go_ret2
  exact ⟨rfl, below_then (below_new (Below.refl _ _) _) hb⟩
theorem putH_len (V F S O L : Int) : (putH V F S O L).length = 9 := by simp [putH, putB_len]
theorem putH_cells (V F S O L : Int) (hV0 : 0 ≤ V) (hV1 : V < 256) (hF0 : 0 ≤ F) (hF1 : F < 256) (hO0 : 0 ≤ O) (hO1 : O < 256) : bv (putH V F S O L) =
    [.int .u8 V, .int .u8 F, .int .u8 (S % 65536 / 256 % 256), .int .u8 (S % 65536 % 256), .int .u8 O, .int .u8 (L / 16777216 % 256), .int .u8 (L / 65536 % 256), .int .u8 (L / 256 % 256), .int .u8 (L % 256)] := by
  have e2 : bv (putB (S % 65536) 2) = [.int .u8 (S % 65536 / 256 % 256), .int .u8 (S % 65536 % 256)] := by
    simp [bv, putB, List.range_succ, dg_val, dig]
  have e4 : bv (putB L 4) = [.int .u8 (L / 16777216 % 256), .int .u8 (L / 65536 % 256), .int .u8 (L / 256 % 256), .int .u8 (L % 256)] := by
    simp [bv, putB, List.range_succ, dg_val, dig]
  unfold putH
  rw [bv_append, bv_append, bv_append, e2, e4]
  simp only [bv, List.map_cons, List.map_nil, byteI hV0 hV1, byteI hF0 hF1, byteI hO0 hO1, List.cons_append, List.nil_append]
set_option maxHeartbeats 800000 in
theorem rput_ok (V F S O L : Int) (w : World) (hV0 : 0 ≤ V) (hV1 : V < 256) (hF0 : 0 ≤ F) (hF1 : F < 256) (hS0 : -32768 ≤ S) (hS1 : S < 32768) (hO0 : 0 ≤ O) (hO1 : O < 256) (hL0 : 0 ≤ L) (hL1 : L < 4294967296) (h : chk V F O L = 0) :
    Calls Try.prog 17 #[hdr V F S O L] w fun e w' => ∃ A c, e = .returned (.tuple #[.slice A 9 c, .int .i64 0]) ∧ SW w' A 9 c (putH V F S O L) ∧ Below w.heap.size w w' := by
  by_cases hs : S < 0
  · go_enter Try.func17, Try.ntmps17
    go_wp2_with fail
    refine (rcheck_any V F S O L _ hF0 hF1).mono ?_
    rintro e w1 ⟨rfl, hb⟩
    rw [h]
    obtain ⟨hlt, c0, c1, c2, c3, c4, hb0⟩ := box_kept hb
    clear hb
    go_wp2_with fail
    go_ret2
    refine ⟨_, _, rfl, SW.lit _ _ _ _ _ rfl ?_ 9 (putH_len V F S O L).symm (by rw [putH_len]; decide), below_new hb0 _⟩
    rw [putH_cells V F S O L hV0 hV1 hF0 hF1 hO0 hO1]
    congr 1
    simp only [List.cons.injEq, Value.int.injEq, true_and, and_true]
    omega
  · go_enter Try.func17, Try.ntmps17
    go_wp2_with fail
    refine (rcheck_any V F S O L _ hF0 hF1).mono ?_
    rintro e w1 ⟨rfl, hb⟩
    rw [h]
    obtain ⟨hlt, c0, c1, c2, c3, c4, hb0⟩ := box_kept hb
    clear hb
    go_wp2_with fail
    go_ret2
    refine ⟨_, _, rfl, SW.lit _ _ _ _ _ rfl ?_ 9 (putH_len V F S O L).symm (by rw [putH_len]; decide), below_new hb0 _⟩
    rw [putH_cells V F S O L hV0 hV1 hF0 hF1 hO0 hO1]
    congr 1
    simp only [List.cons.injEq, Value.int.injEq, true_and, and_true]
    omega
end Go.Proofs.Ytiehhoonfneccaa
