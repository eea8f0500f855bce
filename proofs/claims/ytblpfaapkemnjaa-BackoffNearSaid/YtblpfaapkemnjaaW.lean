/- awake of chapter 16 answers true; the walk of BackoffWaits. No condition but that the numbers fit their kinds. -/
import Derived.Test.YtblpfaapkemnjaaG
namespace Go.Proofs.Ytblpfaapkemnjaa
open Go.RowKit
set_option maxHeartbeats 800000 in
theorem awake_any (w : World) : Calls Try.prog 7 #[] w fun e w' => e = .returned (.bool true) ∧ Below w.heap.size w w' := by
  go_enter Try.func7, Try.ntmps7
  go_wp2_with fail
  refine (plain_any 100 1000 3 _ (by omega) (by omega) (by omega) (by omega) (by omega)).mono ?_
  rintro e w1 ⟨rfl, rfl⟩
  rw [show pl 100 1000 (Int.toNat 3) = 800 from by decide]
  go_wp2_with fail
  refine (plain_any 100 1000 4 _ (by omega) (by omega) (by omega) (by omega) (by omega)).mono ?_
  rintro e w1 ⟨rfl, rfl⟩
  rw [show pl 100 1000 (Int.toNat 4) = 1000 from by decide]
  go_wp2_with fail
  refine (delay_any 100 1000 0 10 0 _ (by omega) (by omega) (by omega) (by omega) (by omega) (by omega) (by omega) (by omega) (by omega) (by omega)).mono ?_
  rintro e w1 ⟨q, rfl, rfl⟩
  rw [show dl (pl 100 1000 (Int.toNat 0)) (mn 10) 0 = 90 from by decide]
  go_wp2_with fail
  go_ret
  exact ⟨rfl, below_drewN (Below.refl _ _) _⟩
set_option maxHeartbeats 800000 in
theorem waits_any (b m n pc dr : Int) (w : World) (b0 : 0 ≤ b) (b1 : b < 18446744073709551616) (m0 : 0 ≤ m) (m1 : m < 18446744073709551616) (n0 : 0 ≤ n) (n1 : n < 18446744073709551616) (c0 : 0 ≤ pc) (c1 : pc < 18446744073709551616) (r0 : 0 ≤ dr) (r1 : dr < 18446744073709551616) :
    Calls Try.prog 3 #[.int .u64 b, .int .u64 m, .int .u64 n, .int .u64 pc, .int .u64 dr] w fun e w' => e = .returned (.bool true) ∧ Below w.heap.size w w' := by
  have P1 := Lib.hid (fun W => plain_any b m n W b0 b1 m0 m1 n0)
  have P2 := Lib.hid (fun W => rplain_any b m n W b0 b1 m0 m1 n0 n1)
  have D1 := Lib.hid (fun W => delay_any b m n pc dr W b0 b1 m0 m1 n0 n1 c0 c1 r0 r1)
  have D2 := Lib.hid (fun W => rdelay_any b m n pc dr W b0 b1 m0 m1 n0 n1 c0 c1 r0 r1)
  clear b0 b1 m0 m1 n0 n1 c0 c1 r0 r1
  go_enter Try.func3, Try.ntmps3
  go_wp2_with fail
  refine (awake_any _).mono ?_
  rintro e w1 ⟨rfl, hb⟩
  go_wp2_with fail
  refine (P1.out _).mono ?_
  rintro e w2 ⟨rfl, rfl⟩
  go_wp2_with fail
  refine (P2.out _).mono ?_
  rintro e w2 ⟨rfl, rfl⟩
  go_wp2_with fail
  refine (D1.out _).mono ?_
  rintro e w2 ⟨q, rfl, rfl⟩
  go_wp2_with fail
  refine (D2.out _).mono ?_
  rintro e w2 ⟨rfl, rfl⟩
  go_wp2_with fail
  go_ret
  exact ⟨rfl, below_drewN hb _⟩
theorem pl_grows (b m : Int) (k : Nat) (hb : 0 ≤ b) (hm : 0 ≤ m) (hm1 : m < 18446744073709551616) :
    pl b m k ≤ m ∧ pl b m (k + 1) ≤ m ∧ pl b m k ≤ pl b m (k + 1) ∧ (pl b m (k + 1) = m ∨ (pl b m k < 9223372036854775808 ∧ pl b m (k + 1) = 2 * pl b m k)) := by
  have h1 : 0 ≤ b * 2 ^ k := Int.mul_nonneg hb (by have := two_pow_pos k; omega)
  rw [pl_end b m k hm, pl_end b m (k + 1) hm, dbl_succ]
  generalize b * 2 ^ k = q at *
  by_cases c1 : q ≤ m
  · rw [if_pos c1]
    by_cases c2 : q * 2 ≤ m
    · rw [if_pos c2]; omega
    · rw [if_neg c2]; omega
  · rw [if_neg c1, if_neg (show ¬ q * 2 ≤ m by omega)]; omega
set_option maxHeartbeats 800000 in
theorem grows_any (b m n : Int) (w : World) (b0 : 0 ≤ b) (b1 : b < 18446744073709551616) (m0 : 0 ≤ m) (m1 : m < 18446744073709551616) (n0 : 0 ≤ n) (n1 : n < 18446744073709551616) :
    Calls Try.prog 4 #[.int .u64 b, .int .u64 m, .int .u64 n] w fun e w' => e = .returned (.bool true) ∧ Below w.heap.size w w' := by
  obtain ⟨k, hk, k0, k1⟩ : ∃ k, bits .and .u64 n 127 = k ∧ 0 ≤ k ∧ k ≤ 127 := by
    refine ⟨_, u64_and n 127 n0 n1 (by omega) (by omega), by omega, ?_⟩
    have : n.toNat &&& (127 : Int).toNat ≤ (127 : Int).toNat := Nat.and_le_right
    omega
  have P1 := Lib.hid (fun W => plain_any b m k W b0 b1 m0 m1 k0)
  have P2 := Lib.hid (fun W => plain_any b m (k + 1) W b0 b1 m0 m1 (by omega))
  have PG := pl_grows b m k.toNat b0 m0 m1
  rw [show k.toNat + 1 = (k + 1).toNat from by omega] at PG
  obtain ⟨x, hx⟩ : ∃ x, pl b m k.toNat = x := ⟨_, rfl⟩
  obtain ⟨y, hy⟩ : ∃ y, pl b m (k + 1).toNat = y := ⟨_, rfl⟩
  have x0 := (pl_bounds b m k.toNat b0 m0).1
  rw [hx, hy] at PG
  rw [hx] at x0
  obtain ⟨g1, g2, g3, g4⟩ := PG
  have HX := Lib.hid hx
  have HY := Lib.hid hy
  clear hx hy b0 b1
  rcases g4 with rfl | ⟨g4, rfl⟩
  all_goals
    go_enter Try.func4, Try.ntmps4
    go_wp2_with fail
    refine (awake_any _).mono ?_
    rintro e w1 ⟨rfl, hb⟩
    go_wp2_with fail
    refine (P1.out _).mono ?_
    rintro e w2 ⟨rfl, rfl⟩
    rw [HX.out]
    go_wp2_with fail
    refine (P2.out _).mono ?_
    rintro e w2 ⟨rfl, rfl⟩
    rw [HY.out]
    go_wp2_with fail
    all_goals go_ret
    all_goals exact ⟨ret_bool (by first | rfl | simp | omega), hb⟩
end Go.Proofs.Ytblpfaapkemnjaa
