/- backoff.Plain and the reference's Plain: what they compute. No condition but that the numbers fit their kinds. -/
import Derived.Test.YtblpfaapkemnjaaA
namespace Go.Proofs.Ytblpfaapkemnjaa
open Go.RowKit
set_option maxHeartbeats 400000 in
theorem plain_few (b m n : Int) (w : World) (b0 : 0 ≤ b) (b1 : b < 18446744073709551616) (m0 : 0 ≤ m) (m1 : m < 18446744073709551616) (n0 : 0 ≤ n) (n1 : n ≤ 64) :
    Calls Try.prog 8 #[.int .u64 b, .int .u64 m, .int .u64 n] w fun e w' => e = .returned (.int .u64 (pl b m n.toNat)) ∧ w = w' := by
  obtain ⟨z, rfl⟩ := Int.eq_ofNat_of_zero_le n0
  rw [Int.toNat_natCast]
  have PO := Lib.hid (fun i => pl_over b m i z b0 m1)
  have PE := Lib.hid (pl_end b m z m0)
  have PN := Lib.hid (fun i => Int.mul_nonneg b0 (show (0 : Int) ≤ 2 ^ i by have := two_pow_pos i; omega))
  go_enter Try.func8, Try.ntmps8
  go_wp2_with fail
  go_loop [7, 12] (fun o i => ∃ k : Nat, k ≤ z ∧ i = .int .i64 k ∧ o = .int .u64 (b * 2 ^ k) ∧ b * 2 ^ k < 18446744073709551616) (fun _ i => z - (intOf i).toNat)
  case atStart => exact ⟨0, Nat.zero_le _, rfl, by simp, by simpa using b1⟩
  case round =>
    obtain ⟨k, hk, rfl, rfl, hlt64⟩ := hrel
    have hn := PN.out k
    by_cases hlt : k < z
    · by_cases hbig : 9223372036854775807 < b * 2 ^ k
      · go_wp2_with fail
        go_ret
        exact ⟨ret_u64 (PO.out k hlt hbig).symm, rfl⟩
      · go_wp2_with fail
        rw [← dbl_succ]
        exact ⟨⟨k + 1, by omega, by go_num, rfl, by rw [dbl_succ]; omega⟩, by simp [intOf]; omega⟩
    · obtain rfl : k = z := by omega
      go_wp2_with fail
      all_goals go_ret
      all_goals exact ⟨ret_u64 (by rw [PE.out]; split <;> omega), rfl⟩
set_option maxHeartbeats 400000 in
theorem plain_many (b m n : Int) (w : World) (b0 : 0 ≤ b) (b1 : b < 18446744073709551616) (m0 : 0 ≤ m) (m1 : m < 18446744073709551616) (n1 : 64 < n) :
    Calls Try.prog 8 #[.int .u64 b, .int .u64 m, .int .u64 n] w fun e w' => e = .returned (.int .u64 (pl b m n.toNat)) ∧ w = w' := by
  obtain ⟨z, rfl⟩ := Int.eq_ofNat_of_zero_le (show 0 ≤ n by omega)
  rw [Int.toNat_natCast]
  have PO := Lib.hid (fun i => pl_over b m i z b0 m1)
  have PB := Lib.hid (big_out b b0)
  have PN := Lib.hid (fun i => Int.mul_nonneg b0 (show (0 : Int) ≤ 2 ^ i by have := two_pow_pos i; omega))
  go_enter Try.func8, Try.ntmps8
  go_wp2_with fail
  go_loop [7, 12] (fun o i => ∃ k : Nat, k ≤ 64 ∧ i = .int .i64 k ∧ o = .int .u64 (b * 2 ^ k) ∧ b * 2 ^ k < 18446744073709551616) (fun _ i => 64 - (intOf i).toNat)
  case atStart => exact ⟨0, Nat.zero_le _, rfl, by simp, by simpa using b1⟩
  case round =>
    obtain ⟨k, hk, rfl, rfl, hlt64⟩ := hrel
    have hn := PN.out k
    by_cases hlt : k < 64
    · by_cases hbig : 9223372036854775807 < b * 2 ^ k
      · go_wp2_with fail
        go_ret
        exact ⟨ret_u64 (PO.out k (by omega) hbig).symm, rfl⟩
      · go_wp2_with fail
        rw [← dbl_succ]
        exact ⟨⟨k + 1, by omega, by go_num, rfl, by rw [dbl_succ]; omega⟩, by simp [intOf]; omega⟩
    · obtain rfl : k = 64 := by omega
      obtain rfl : b = 0 := PB.out hlt64
      go_wp2_with fail
      all_goals go_ret
      all_goals exact ⟨ret_u64 (by simp [pl_zero]), rfl⟩
theorem plain_any (b m n : Int) (w : World) (b0 : 0 ≤ b) (b1 : b < 18446744073709551616) (m0 : 0 ≤ m) (m1 : m < 18446744073709551616) (n0 : 0 ≤ n) :
    Calls Try.prog 8 #[.int .u64 b, .int .u64 m, .int .u64 n] w fun e w' => e = .returned (.int .u64 (pl b m n.toNat)) ∧ w = w' := by
  by_cases h : n ≤ 64
  · exact plain_few b m n w b0 b1 m0 m1 n0 h
  · exact plain_many b m n w b0 b1 m0 m1 (by omega)
set_option maxHeartbeats 400000 in
theorem rplain_any (b m n : Int) (w : World) (b0 : 0 ≤ b) (b1 : b < 18446744073709551616) (m0 : 0 ≤ m) (m1 : m < 18446744073709551616) (n0 : 0 ≤ n) (n1 : n < 18446744073709551616) :
    Calls Try.prog 9 #[.int .u64 b, .int .u64 m, .int .u64 n] w fun e w' => e = .returned (.int .u64 (pl b m n.toNat)) ∧ w = w' := by
  by_cases hb : b = 0
  · subst hb
    go_enter Try.func9, Try.ntmps9
    go_wp2_with fail
    go_ret
    exact ⟨ret_u64 (by rw [pl_zero]), rfl⟩
  · have PO := Lib.hid (fun i => pl_over b m i n.toNat b0 m1)
    have PE := Lib.hid (pl_end b m n.toNat m0)
    have PS := Lib.hid (fun i => pl_stop b m i n.toNat b0 hb)
    have PN := Lib.hid (fun i => Int.mul_nonneg b0 (show (0 : Int) ≤ 2 ^ i by have := two_pow_pos i; omega))
    have hbb : (b == 0) = false := by simpa using hb
    clear hb
    go_enter Try.func9, Try.ntmps9
    go_wp2_with fail
    go_loop [7, 8] (fun o i => ∃ k : Int, 0 ≤ k ∧ k ≤ n ∧ i = .int .u64 k ∧ ∃ q, o = .int .u64 q ∧ Hid (q = b * 2 ^ k.toNat) ∧ 0 ≤ q ∧ q < 18446744073709551616) (fun _ i => n.toNat - (intOf i).toNat)
    case atStart => exact ⟨0, Int.le_refl _, n0, rfl, b, rfl, Lib.hid (by simp), b0, b1⟩
    case round =>
      obtain ⟨k, hk0, hk, rfl, q, rfl, hq, hq0, hlt64⟩ := hrel
      by_cases hlt : k < n
      · by_cases hm : q < m
        · by_cases hbig : 9223372036854775807 < q
          · go_wp2_with fail
            go_ret
            exact ⟨ret_u64 (PO.out k.toNat (by omega) (by rw [← hq.out]; exact hbig)).symm, rfl⟩
          · go_wp2_with fail
            refine ⟨⟨k + 1, by omega, by omega, rfl, _, rfl, Lib.hid ?_, by omega, by omega⟩, by simp [intOf]; omega⟩
            rw [show (k + 1).toNat = k.toNat + 1 from by omega, dbl_succ, ← hq.out]
            omega
        · go_wp2_with fail
          all_goals go_ret
          all_goals exact ⟨ret_u64 (by rw [PS.out k.toNat (by omega) (by rw [← hq.out]; omega)]; try omega), rfl⟩
      · obtain rfl : k = n := by omega
        go_wp2_with fail
        all_goals go_ret
        all_goals exact ⟨ret_u64 (by rw [PE.out, ← hq.out]; split <;> omega), rfl⟩
end Go.Proofs.Ytblpfaapkemnjaa
