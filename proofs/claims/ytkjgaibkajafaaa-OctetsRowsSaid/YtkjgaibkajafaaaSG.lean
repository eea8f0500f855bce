/- The walk of OctetsSigns, a walk for each number of bytes. No condition but that the numbers fit their kinds. -/
import Derived.Test.YtkjgaibkajafaaaG
namespace Go.Proofs.Ytkjgaibkajafaaa
open Go.RowKit
theorem and7 (n : Int) : bits .and .i64 n 7 = n % 8 := by
  show IntKind.i64.wrap ((BitVec.ofInt 64 n &&& BitVec.ofInt 64 7).toNat : Int) = _
  rw [BitVec.toNat_and, BitVec.toNat_ofInt, IntKind.wrap_i64]
  have e : (BitVec.ofInt 64 7).toNat = 2 ^ 3 - 1 := by decide
  rw [e, Nat.and_two_pow_sub_one_eq_mod]
  omega
theorem wrap_in (x : Int) : 0 ≤ IntKind.u64.wrap x ∧ IntKind.u64.wrap x < 18446744073709551616 := by
  rw [IntKind.wrap_u64]; omega
theorem getV_back (x : Int) (k : Nat) : getV ((putB x k).take k) = x % 256 ^ k := by
  rw [List.take_of_length_le (by rw [putB_len]; exact Nat.le_refl _), getV_putB]
theorem sgn8 (x : Int) (w0 : -9223372036854775808 ≤ x) (w1 : x ≤ 9223372036854775807) : sgn (IntKind.u64.wrap x) 8 = x := by
  simp only [sgn, IntKind.wrap_u64, Int.reducePow]
  split <;> omega
theorem mod_in (x : Int) (k : Nat) (h0 : 0 ≤ x) (h1 : x < 18446744073709551616) : 0 ≤ x % 256 ^ k ∧ x % 256 ^ k < 18446744073709551616 := by
  have hp : (0 : Int) < 256 ^ k := Int.pow_pos (by omega)
  refine ⟨Int.emod_nonneg _ (by omega), ?_⟩
  have := Int.emod_lt_of_pos x hp
  rcases Int.lt_or_le x (256 ^ k) with h | h
  · rw [Int.emod_eq_of_lt h0 h]; exact h1
  · omega


theorem signs_back1 (x : Int) (w0 : -9223372036854775808 ≤ x) (w1 : x ≤ 9223372036854775807) : ∃ s, sgn (IntKind.u64.wrap x % 256) 1 = s ∧ -128 ≤ s ∧ s < 128 ∧ IntKind.u64.wrap (IntKind.u64.wrap x * 72057594037927936) = IntKind.u64.wrap (IntKind.u64.wrap s * 72057594037927936) := by
  refine ⟨_, rfl, ?_⟩
  simp only [sgn, IntKind.wrap_u64, Int.reducePow]
  split <;> omega
set_option maxHeartbeats 1600000 in
theorem signs_1 (x n : Int) (w : World) (w0 : -9223372036854775808 ≤ x) (w1 : x ≤ 9223372036854775807) (hn : bits .and .i64 n 7 = 0) :
    Calls Try.prog 6 #[.int .i64 x, .int .i64 n] w fun e w' => e = .returned (.bool true) ∧ Below w.heap.size w w' := by
  have HU := Lib.hid (wrap_in x)
  have HS := Lib.hid (sgn8 x w0 w1)
  obtain ⟨s, hs, s0, s1, s2⟩ := signs_back1 x w0 w1
  have HE := Lib.hid hs
  have H2 := Lib.hid s2
  clear hs s2
  go_enter Try.func6, Try.ntmps6
  go_wp2_with fail
  refine (awake_any _).mono ?_
  rintro e w1 ⟨rfl, hb⟩
  go_wp2_with fail
  refine (put_any _ 1 _ (by omega) (by omega)).mono ?_
  rintro e w2 ⟨v, rfl, hown, hb2⟩
  obtain ⟨A, c, rfl, hbs⟩ := BS.of_own hown
  clear hown
  go_wp2_with fail
  refine (get_any 1 _ hbs (by omega) (by omega) (by omega)).mono ?_
  rintro e w3 ⟨A3, q, rfl, hbs3, rfl⟩
  clear hbs3
  rw [show Int.toNat 1 = 1 from rfl, getV_back, show (256 : Int) ^ 1 = 256 from rfl]
  go_wp2_with fail
  refine (signed_any (IntKind.u64.wrap x % 256) 1 _ (mod_in _ 1 HU.out.1 HU.out.2).1 (mod_in _ 1 HU.out.1 HU.out.2).2 (by omega) (by omega)).mono ?_
  rintro e w4 ⟨rfl, rfl⟩
  rw [show Int.toNat 1 = 1 from rfl, HE.out]
  go_wp2_with fail
  refine (signed_any _ 8 _ HU.out.1 HU.out.2 (by omega) (by omega)).mono ?_
  rintro e w4 ⟨rfl, rfl⟩
  rw [show Int.toNat 8 = 8 from rfl, HS.out]
  go_wp2_with fail
  all_goals go_ret
  all_goals exact ⟨ret_bool (by first | rfl | (rw [H2.out]; simp) | (have := H2.out; simp_all)), below_drewN (below_then hb hb2) _⟩

theorem signs_back2 (x : Int) (w0 : -9223372036854775808 ≤ x) (w1 : x ≤ 9223372036854775807) : ∃ s, sgn (IntKind.u64.wrap x % 65536) 2 = s ∧ -32768 ≤ s ∧ s < 32768 ∧ IntKind.u64.wrap (IntKind.u64.wrap x * 281474976710656) = IntKind.u64.wrap (IntKind.u64.wrap s * 281474976710656) := by
  refine ⟨_, rfl, ?_⟩
  simp only [sgn, IntKind.wrap_u64, Int.reducePow]
  split <;> omega
set_option maxHeartbeats 1600000 in
theorem signs_2 (x n : Int) (w : World) (w0 : -9223372036854775808 ≤ x) (w1 : x ≤ 9223372036854775807) (hn : bits .and .i64 n 7 = 1) :
    Calls Try.prog 6 #[.int .i64 x, .int .i64 n] w fun e w' => e = .returned (.bool true) ∧ Below w.heap.size w w' := by
  have HU := Lib.hid (wrap_in x)
  have HS := Lib.hid (sgn8 x w0 w1)
  obtain ⟨s, hs, s0, s1, s2⟩ := signs_back2 x w0 w1
  have HE := Lib.hid hs
  have H2 := Lib.hid s2
  clear hs s2
  go_enter Try.func6, Try.ntmps6
  go_wp2_with fail
  refine (awake_any _).mono ?_
  rintro e w1 ⟨rfl, hb⟩
  go_wp2_with fail
  refine (put_any _ 2 _ (by omega) (by omega)).mono ?_
  rintro e w2 ⟨v, rfl, hown, hb2⟩
  obtain ⟨A, c, rfl, hbs⟩ := BS.of_own hown
  clear hown
  go_wp2_with fail
  refine (get_any 2 _ hbs (by omega) (by omega) (by omega)).mono ?_
  rintro e w3 ⟨A3, q, rfl, hbs3, rfl⟩
  clear hbs3
  rw [show Int.toNat 2 = 2 from rfl, getV_back, show (256 : Int) ^ 2 = 65536 from rfl]
  go_wp2_with fail
  refine (signed_any (IntKind.u64.wrap x % 65536) 2 _ (mod_in _ 2 HU.out.1 HU.out.2).1 (mod_in _ 2 HU.out.1 HU.out.2).2 (by omega) (by omega)).mono ?_
  rintro e w4 ⟨rfl, rfl⟩
  rw [show Int.toNat 2 = 2 from rfl, HE.out]
  go_wp2_with fail
  refine (signed_any _ 8 _ HU.out.1 HU.out.2 (by omega) (by omega)).mono ?_
  rintro e w4 ⟨rfl, rfl⟩
  rw [show Int.toNat 8 = 8 from rfl, HS.out]
  go_wp2_with fail
  all_goals go_ret
  all_goals exact ⟨ret_bool (by first | rfl | (rw [H2.out]; simp) | (have := H2.out; simp_all)), below_drewN (below_then hb hb2) _⟩

theorem signs_back3 (x : Int) (w0 : -9223372036854775808 ≤ x) (w1 : x ≤ 9223372036854775807) : ∃ s, sgn (IntKind.u64.wrap x % 16777216) 3 = s ∧ -8388608 ≤ s ∧ s < 8388608 ∧ IntKind.u64.wrap (IntKind.u64.wrap x * 1099511627776) = IntKind.u64.wrap (IntKind.u64.wrap s * 1099511627776) := by
  refine ⟨_, rfl, ?_⟩
  simp only [sgn, IntKind.wrap_u64, Int.reducePow]
  split <;> omega
set_option maxHeartbeats 1600000 in
theorem signs_3 (x n : Int) (w : World) (w0 : -9223372036854775808 ≤ x) (w1 : x ≤ 9223372036854775807) (hn : bits .and .i64 n 7 = 2) :
    Calls Try.prog 6 #[.int .i64 x, .int .i64 n] w fun e w' => e = .returned (.bool true) ∧ Below w.heap.size w w' := by
  have HU := Lib.hid (wrap_in x)
  have HS := Lib.hid (sgn8 x w0 w1)
  obtain ⟨s, hs, s0, s1, s2⟩ := signs_back3 x w0 w1
  have HE := Lib.hid hs
  have H2 := Lib.hid s2
  clear hs s2
  go_enter Try.func6, Try.ntmps6
  go_wp2_with fail
  refine (awake_any _).mono ?_
  rintro e w1 ⟨rfl, hb⟩
  go_wp2_with fail
  refine (put_any _ 3 _ (by omega) (by omega)).mono ?_
  rintro e w2 ⟨v, rfl, hown, hb2⟩
  obtain ⟨A, c, rfl, hbs⟩ := BS.of_own hown
  clear hown
  go_wp2_with fail
  refine (get_any 3 _ hbs (by omega) (by omega) (by omega)).mono ?_
  rintro e w3 ⟨A3, q, rfl, hbs3, rfl⟩
  clear hbs3
  rw [show Int.toNat 3 = 3 from rfl, getV_back, show (256 : Int) ^ 3 = 16777216 from rfl]
  go_wp2_with fail
  refine (signed_any (IntKind.u64.wrap x % 16777216) 3 _ (mod_in _ 3 HU.out.1 HU.out.2).1 (mod_in _ 3 HU.out.1 HU.out.2).2 (by omega) (by omega)).mono ?_
  rintro e w4 ⟨rfl, rfl⟩
  rw [show Int.toNat 3 = 3 from rfl, HE.out]
  go_wp2_with fail
  refine (signed_any _ 8 _ HU.out.1 HU.out.2 (by omega) (by omega)).mono ?_
  rintro e w4 ⟨rfl, rfl⟩
  rw [show Int.toNat 8 = 8 from rfl, HS.out]
  go_wp2_with fail
  all_goals go_ret
  all_goals exact ⟨ret_bool (by first | rfl | (rw [H2.out]; simp) | (have := H2.out; simp_all)), below_drewN (below_then hb hb2) _⟩

theorem signs_back4 (x : Int) (w0 : -9223372036854775808 ≤ x) (w1 : x ≤ 9223372036854775807) : ∃ s, sgn (IntKind.u64.wrap x % 4294967296) 4 = s ∧ -2147483648 ≤ s ∧ s < 2147483648 ∧ IntKind.u64.wrap (IntKind.u64.wrap x * 4294967296) = IntKind.u64.wrap (IntKind.u64.wrap s * 4294967296) := by
  refine ⟨_, rfl, ?_⟩
  simp only [sgn, IntKind.wrap_u64, Int.reducePow]
  split <;> omega
set_option maxHeartbeats 1600000 in
theorem signs_4 (x n : Int) (w : World) (w0 : -9223372036854775808 ≤ x) (w1 : x ≤ 9223372036854775807) (hn : bits .and .i64 n 7 = 3) :
    Calls Try.prog 6 #[.int .i64 x, .int .i64 n] w fun e w' => e = .returned (.bool true) ∧ Below w.heap.size w w' := by
  have HU := Lib.hid (wrap_in x)
  have HS := Lib.hid (sgn8 x w0 w1)
  obtain ⟨s, hs, s0, s1, s2⟩ := signs_back4 x w0 w1
  have HE := Lib.hid hs
  have H2 := Lib.hid s2
  clear hs s2
  go_enter Try.func6, Try.ntmps6
  go_wp2_with fail
  refine (awake_any _).mono ?_
  rintro e w1 ⟨rfl, hb⟩
  go_wp2_with fail
  refine (put_any _ 4 _ (by omega) (by omega)).mono ?_
  rintro e w2 ⟨v, rfl, hown, hb2⟩
  obtain ⟨A, c, rfl, hbs⟩ := BS.of_own hown
  clear hown
  go_wp2_with fail
  refine (get_any 4 _ hbs (by omega) (by omega) (by omega)).mono ?_
  rintro e w3 ⟨A3, q, rfl, hbs3, rfl⟩
  clear hbs3
  rw [show Int.toNat 4 = 4 from rfl, getV_back, show (256 : Int) ^ 4 = 4294967296 from rfl]
  go_wp2_with fail
  refine (signed_any (IntKind.u64.wrap x % 4294967296) 4 _ (mod_in _ 4 HU.out.1 HU.out.2).1 (mod_in _ 4 HU.out.1 HU.out.2).2 (by omega) (by omega)).mono ?_
  rintro e w4 ⟨rfl, rfl⟩
  rw [show Int.toNat 4 = 4 from rfl, HE.out]
  go_wp2_with fail
  refine (signed_any _ 8 _ HU.out.1 HU.out.2 (by omega) (by omega)).mono ?_
  rintro e w4 ⟨rfl, rfl⟩
  rw [show Int.toNat 8 = 8 from rfl, HS.out]
  go_wp2_with fail
  all_goals go_ret
  all_goals exact ⟨ret_bool (by first | rfl | (rw [H2.out]; simp) | (have := H2.out; simp_all)), below_drewN (below_then hb hb2) _⟩

theorem signs_back5 (x : Int) (w0 : -9223372036854775808 ≤ x) (w1 : x ≤ 9223372036854775807) : ∃ s, sgn (IntKind.u64.wrap x % 1099511627776) 5 = s ∧ -549755813888 ≤ s ∧ s < 549755813888 ∧ IntKind.u64.wrap (IntKind.u64.wrap x * 16777216) = IntKind.u64.wrap (IntKind.u64.wrap s * 16777216) := by
  refine ⟨_, rfl, ?_⟩
  simp only [sgn, IntKind.wrap_u64, Int.reducePow]
  split <;> omega
set_option maxHeartbeats 1600000 in
theorem signs_5 (x n : Int) (w : World) (w0 : -9223372036854775808 ≤ x) (w1 : x ≤ 9223372036854775807) (hn : bits .and .i64 n 7 = 4) :
    Calls Try.prog 6 #[.int .i64 x, .int .i64 n] w fun e w' => e = .returned (.bool true) ∧ Below w.heap.size w w' := by
  have HU := Lib.hid (wrap_in x)
  have HS := Lib.hid (sgn8 x w0 w1)
  obtain ⟨s, hs, s0, s1, s2⟩ := signs_back5 x w0 w1
  have HE := Lib.hid hs
  have H2 := Lib.hid s2
  clear hs s2
  go_enter Try.func6, Try.ntmps6
  go_wp2_with fail
  refine (awake_any _).mono ?_
  rintro e w1 ⟨rfl, hb⟩
  go_wp2_with fail
  refine (put_any _ 5 _ (by omega) (by omega)).mono ?_
  rintro e w2 ⟨v, rfl, hown, hb2⟩
  obtain ⟨A, c, rfl, hbs⟩ := BS.of_own hown
  clear hown
  go_wp2_with fail
  refine (get_any 5 _ hbs (by omega) (by omega) (by omega)).mono ?_
  rintro e w3 ⟨A3, q, rfl, hbs3, rfl⟩
  clear hbs3
  rw [show Int.toNat 5 = 5 from rfl, getV_back, show (256 : Int) ^ 5 = 1099511627776 from rfl]
  go_wp2_with fail
  refine (signed_any (IntKind.u64.wrap x % 1099511627776) 5 _ (mod_in _ 5 HU.out.1 HU.out.2).1 (mod_in _ 5 HU.out.1 HU.out.2).2 (by omega) (by omega)).mono ?_
  rintro e w4 ⟨rfl, rfl⟩
  rw [show Int.toNat 5 = 5 from rfl, HE.out]
  go_wp2_with fail
  refine (signed_any _ 8 _ HU.out.1 HU.out.2 (by omega) (by omega)).mono ?_
  rintro e w4 ⟨rfl, rfl⟩
  rw [show Int.toNat 8 = 8 from rfl, HS.out]
  go_wp2_with fail
  all_goals go_ret
  all_goals exact ⟨ret_bool (by first | rfl | (rw [H2.out]; simp) | (have := H2.out; simp_all)), below_drewN (below_then hb hb2) _⟩

theorem signs_back6 (x : Int) (w0 : -9223372036854775808 ≤ x) (w1 : x ≤ 9223372036854775807) : ∃ s, sgn (IntKind.u64.wrap x % 281474976710656) 6 = s ∧ -140737488355328 ≤ s ∧ s < 140737488355328 ∧ IntKind.u64.wrap (IntKind.u64.wrap x * 65536) = IntKind.u64.wrap (IntKind.u64.wrap s * 65536) := by
  refine ⟨_, rfl, ?_⟩
  simp only [sgn, IntKind.wrap_u64, Int.reducePow]
  split <;> omega
set_option maxHeartbeats 1600000 in
theorem signs_6 (x n : Int) (w : World) (w0 : -9223372036854775808 ≤ x) (w1 : x ≤ 9223372036854775807) (hn : bits .and .i64 n 7 = 5) :
    Calls Try.prog 6 #[.int .i64 x, .int .i64 n] w fun e w' => e = .returned (.bool true) ∧ Below w.heap.size w w' := by
  have HU := Lib.hid (wrap_in x)
  have HS := Lib.hid (sgn8 x w0 w1)
  obtain ⟨s, hs, s0, s1, s2⟩ := signs_back6 x w0 w1
  have HE := Lib.hid hs
  have H2 := Lib.hid s2
  clear hs s2
  go_enter Try.func6, Try.ntmps6
  go_wp2_with fail
  refine (awake_any _).mono ?_
  rintro e w1 ⟨rfl, hb⟩
  go_wp2_with fail
  refine (put_any _ 6 _ (by omega) (by omega)).mono ?_
  rintro e w2 ⟨v, rfl, hown, hb2⟩
  obtain ⟨A, c, rfl, hbs⟩ := BS.of_own hown
  clear hown
  go_wp2_with fail
  refine (get_any 6 _ hbs (by omega) (by omega) (by omega)).mono ?_
  rintro e w3 ⟨A3, q, rfl, hbs3, rfl⟩
  clear hbs3
  rw [show Int.toNat 6 = 6 from rfl, getV_back, show (256 : Int) ^ 6 = 281474976710656 from rfl]
  go_wp2_with fail
  refine (signed_any (IntKind.u64.wrap x % 281474976710656) 6 _ (mod_in _ 6 HU.out.1 HU.out.2).1 (mod_in _ 6 HU.out.1 HU.out.2).2 (by omega) (by omega)).mono ?_
  rintro e w4 ⟨rfl, rfl⟩
  rw [show Int.toNat 6 = 6 from rfl, HE.out]
  go_wp2_with fail
  refine (signed_any _ 8 _ HU.out.1 HU.out.2 (by omega) (by omega)).mono ?_
  rintro e w4 ⟨rfl, rfl⟩
  rw [show Int.toNat 8 = 8 from rfl, HS.out]
  go_wp2_with fail
  all_goals go_ret
  all_goals exact ⟨ret_bool (by first | rfl | (rw [H2.out]; simp) | (have := H2.out; simp_all)), below_drewN (below_then hb hb2) _⟩

theorem signs_back7 (x : Int) (w0 : -9223372036854775808 ≤ x) (w1 : x ≤ 9223372036854775807) : ∃ s, sgn (IntKind.u64.wrap x % 72057594037927936) 7 = s ∧ -36028797018963968 ≤ s ∧ s < 36028797018963968 ∧ IntKind.u64.wrap (IntKind.u64.wrap x * 256) = IntKind.u64.wrap (IntKind.u64.wrap s * 256) := by
  refine ⟨_, rfl, ?_⟩
  simp only [sgn, IntKind.wrap_u64, Int.reducePow]
  split <;> omega
set_option maxHeartbeats 1600000 in
theorem signs_7 (x n : Int) (w : World) (w0 : -9223372036854775808 ≤ x) (w1 : x ≤ 9223372036854775807) (hn : bits .and .i64 n 7 = 6) :
    Calls Try.prog 6 #[.int .i64 x, .int .i64 n] w fun e w' => e = .returned (.bool true) ∧ Below w.heap.size w w' := by
  have HU := Lib.hid (wrap_in x)
  have HS := Lib.hid (sgn8 x w0 w1)
  obtain ⟨s, hs, s0, s1, s2⟩ := signs_back7 x w0 w1
  have HE := Lib.hid hs
  have H2 := Lib.hid s2
  clear hs s2
  go_enter Try.func6, Try.ntmps6
  go_wp2_with fail
  refine (awake_any _).mono ?_
  rintro e w1 ⟨rfl, hb⟩
  go_wp2_with fail
  refine (put_any _ 7 _ (by omega) (by omega)).mono ?_
  rintro e w2 ⟨v, rfl, hown, hb2⟩
  obtain ⟨A, c, rfl, hbs⟩ := BS.of_own hown
  clear hown
  go_wp2_with fail
  refine (get_any 7 _ hbs (by omega) (by omega) (by omega)).mono ?_
  rintro e w3 ⟨A3, q, rfl, hbs3, rfl⟩
  clear hbs3
  rw [show Int.toNat 7 = 7 from rfl, getV_back, show (256 : Int) ^ 7 = 72057594037927936 from rfl]
  go_wp2_with fail
  refine (signed_any (IntKind.u64.wrap x % 72057594037927936) 7 _ (mod_in _ 7 HU.out.1 HU.out.2).1 (mod_in _ 7 HU.out.1 HU.out.2).2 (by omega) (by omega)).mono ?_
  rintro e w4 ⟨rfl, rfl⟩
  rw [show Int.toNat 7 = 7 from rfl, HE.out]
  go_wp2_with fail
  refine (signed_any _ 8 _ HU.out.1 HU.out.2 (by omega) (by omega)).mono ?_
  rintro e w4 ⟨rfl, rfl⟩
  rw [show Int.toNat 8 = 8 from rfl, HS.out]
  go_wp2_with fail
  all_goals go_ret
  all_goals exact ⟨ret_bool (by first | rfl | (rw [H2.out]; simp) | (have := H2.out; simp_all)), below_drewN (below_then hb hb2) _⟩

theorem signs_back8 (x : Int) (w0 : -9223372036854775808 ≤ x) (w1 : x ≤ 9223372036854775807) : ∃ s, sgn (IntKind.u64.wrap x % 18446744073709551616) 8 = s ∧ -9223372036854775808 ≤ s ∧ s < 9223372036854775808 ∧ IntKind.u64.wrap (IntKind.u64.wrap x * 1) = IntKind.u64.wrap (IntKind.u64.wrap s * 1) ∧ s = x := by
  refine ⟨_, rfl, ?_⟩
  simp only [sgn, IntKind.wrap_u64, Int.reducePow]
  split <;> omega
set_option maxHeartbeats 1600000 in
theorem signs_8 (x n : Int) (w : World) (w0 : -9223372036854775808 ≤ x) (w1 : x ≤ 9223372036854775807) (hn : bits .and .i64 n 7 = 7) :
    Calls Try.prog 6 #[.int .i64 x, .int .i64 n] w fun e w' => e = .returned (.bool true) ∧ Below w.heap.size w w' := by
  have HU := Lib.hid (wrap_in x)
  have HS := Lib.hid (sgn8 x w0 w1)
  obtain ⟨s, hs, s0, s1, s2, s3⟩ := signs_back8 x w0 w1
  have HE := Lib.hid hs
  have H2 := Lib.hid s2
  clear hs s2
  go_enter Try.func6, Try.ntmps6
  go_wp2_with fail
  refine (awake_any _).mono ?_
  rintro e w1 ⟨rfl, hb⟩
  go_wp2_with fail
  refine (put_any _ 8 _ (by omega) (by omega)).mono ?_
  rintro e w2 ⟨v, rfl, hown, hb2⟩
  obtain ⟨A, c, rfl, hbs⟩ := BS.of_own hown
  clear hown
  go_wp2_with fail
  refine (get_any 8 _ hbs (by omega) (by omega) (by omega)).mono ?_
  rintro e w3 ⟨A3, q, rfl, hbs3, rfl⟩
  clear hbs3
  rw [show Int.toNat 8 = 8 from rfl, getV_back, show (256 : Int) ^ 8 = 18446744073709551616 from rfl]
  go_wp2_with fail
  refine (signed_any (IntKind.u64.wrap x % 18446744073709551616) 8 _ (mod_in _ 8 HU.out.1 HU.out.2).1 (mod_in _ 8 HU.out.1 HU.out.2).2 (by omega) (by omega)).mono ?_
  rintro e w4 ⟨rfl, rfl⟩
  rw [show Int.toNat 8 = 8 from rfl, HE.out]
  go_wp2_with fail
  refine (signed_any _ 8 _ HU.out.1 HU.out.2 (by omega) (by omega)).mono ?_
  rintro e w4 ⟨rfl, rfl⟩
  rw [show Int.toNat 8 = 8 from rfl, HS.out]
  go_wp2_with fail
  all_goals go_ret
  all_goals exact ⟨ret_bool (by first | rfl | (rw [H2.out]; simp) | (have := H2.out; simp_all)), below_drewN (below_then hb hb2) _⟩

theorem signs_any (x n : Int) (w : World) (w0 : -9223372036854775808 ≤ x) (w1 : x ≤ 9223372036854775807) :
    Calls Try.prog 6 #[.int .i64 x, .int .i64 n] w fun e w' => e = .returned (.bool true) ∧ Below w.heap.size w w' := by
  have h := and7 n
  have hc : n % 8 = 0 ∨ n % 8 = 1 ∨ n % 8 = 2 ∨ n % 8 = 3 ∨ n % 8 = 4 ∨ n % 8 = 5 ∨ n % 8 = 6 ∨ n % 8 = 7 := by omega
  rcases hc with hc | hc | hc | hc | hc | hc | hc | hc <;> rw [hc] at h
  · exact signs_1 x n w w0 w1 h
  · exact signs_2 x n w w0 w1 h
  · exact signs_3 x n w w0 w1 h
  · exact signs_4 x n w w0 w1 h
  · exact signs_5 x n w w0 w1 h
  · exact signs_6 x n w w0 w1 h
  · exact signs_7 x n w w0 w1 h
  · exact signs_8 x n w w0 w1 h
end Go.Proofs.Ytkjgaibkajafaaa
