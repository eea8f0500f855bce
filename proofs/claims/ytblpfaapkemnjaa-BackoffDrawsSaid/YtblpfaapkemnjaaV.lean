/- The walks of BackoffNear and BackoffDraws. No condition but that the numbers fit their kinds. -/
import Derived.Test.YtblpfaapkemnjaaW
namespace Go.Proofs.Ytblpfaapkemnjaa
open Go.RowKit
theorem dl_at (d p dr s : Int) (hs : s = part d p) (s0 : 0 ≤ s) (s1 : s ≤ d) (hd : d ≤ 281474976710655) : dl d p dr = d - s + dr % (2 * s + 1) := by
  have x0 : 0 ≤ dr % (2 * s + 1) := Int.emod_nonneg _ (by omega)
  have x1 : dr % (2 * s + 1) < 2 * s + 1 := Int.emod_lt_of_pos _ (by omega)
  exact dl_small d p dr s _ hs (by omega) rfl (by omega)
theorem mask48 (m : Int) (m0 : 0 ≤ m) (m1 : m < 18446744073709551616) : ∃ k, bits .and .u64 m 281474976710655 = k ∧ 0 ≤ k ∧ k ≤ 281474976710655 := by
  refine ⟨_, u64_and m 281474976710655 m0 m1 (by omega) (by omega), by omega, ?_⟩
  have : m.toNat &&& (281474976710655 : Int).toNat ≤ (281474976710655 : Int).toNat := Nat.and_le_right
  omega
set_option maxHeartbeats 1600000 in
theorem near_any (b m n pc dr : Int) (w : World) (b0 : 0 ≤ b) (b1 : b < 4294967296) (m0 : 0 ≤ m) (m1 : m < 18446744073709551616) (n0 : 0 ≤ n) (n1 : n < 18446744073709551616) (c0 : 0 ≤ pc) (c1 : pc < 18446744073709551616) (r0 : 0 ≤ dr) (r1 : dr < 18446744073709551616) :
    Calls Try.prog 5 #[.int .u32 b, .int .u64 m, .int .u64 n, .int .u64 pc, .int .u64 dr] w fun e w' => e = .returned (.bool true) ∧ Below w.heap.size w w' := by
  obtain ⟨k, hk, k0, k1⟩ := mask48 m m0 m1
  have P1 := Lib.hid (fun W => plain_any b k n W b0 (by omega) k0 (by omega) n0)
  have D1 := Lib.hid (fun W => delay_any b k n pc dr W b0 (by omega) k0 (by omega) n0 n1 c0 c1 r0 r1)
  obtain ⟨d, hd, d0, d1⟩ : ∃ d, pl b k n.toNat = d ∧ 0 ≤ d ∧ d ≤ 281474976710655 := ⟨_, rfl, (pl_bounds b k _ b0 k0).1, by have := (pl_bounds b k n.toNat b0 k0).2; omega⟩
  obtain ⟨p, hp, p0, p1⟩ : ∃ p, mn pc = p ∧ 0 ≤ p ∧ p ≤ 100 := ⟨_, rfl, (mn_bounds pc c0).1, (mn_bounds pc c0).2⟩
  obtain ⟨s, hs, s0, s1⟩ : ∃ s, s = part d p ∧ 0 ≤ s ∧ s ≤ d := ⟨_, rfl, (part_bounds d p d0 p0 p1).1, (part_bounds d p d0 p0 p1).2⟩
  have hdl := dl_at d p dr s hs s0 s1 d1
  obtain ⟨x, hx, x0, x1, x2⟩ : ∃ x, dl d p dr = x ∧ d - s ≤ x ∧ x ≤ d + s ∧ (0 < s ∨ x = d) := by
    have y0 : 0 ≤ dr % (2 * s + 1) := Int.emod_nonneg _ (by omega)
    have y1 : dr % (2 * s + 1) < 2 * s + 1 := Int.emod_lt_of_pos _ (by omega)
    exact ⟨_, hdl, by omega, by omega, by omega⟩
  have g0 : 0 ≤ d * p := Int.mul_nonneg d0 p0
  have g1 : d * p ≤ d * 100 := Int.mul_le_mul_of_nonneg_left p1 d0
  have g3 : d * p / 100 = s := hs.symm
  have g4 : d * p ≤ 28147497671065500 := by omega
  have hpc : (pc ≤ 100 ∧ p = pc) ∨ (100 < pc ∧ p = 100) := by
    rw [← hp]; unfold mn; by_cases h : pc ≤ 100
    · left; exact ⟨h, if_pos h⟩
    · right; exact ⟨by omega, if_neg h⟩
  have HD := Lib.hid hd
  have HX := Lib.hid hx
  have HP := Lib.hid hp
  clear hd hx hp hs hdl g1
  rcases hpc with ⟨h100, rfl⟩ | ⟨h100, rfl⟩
  all_goals
    rcases x2 with x2 | rfl
    all_goals
      go_enter Try.func5, Try.ntmps5
      go_wp2_with fail
      refine (awake_any _).mono ?_
      rintro e w1 ⟨rfl, hb⟩
      go_wp2_with fail
      refine (P1.out _).mono ?_
      rintro e w2 ⟨rfl, rfl⟩
      rw [HD.out]
      go_wp2_with fail
      refine (D1.out _).mono ?_
      rintro e w2 ⟨q, rfl, rfl⟩
      rw [HD.out, HP.out, HX.out]
      go_wp2_with fail
      all_goals go_ret
      all_goals exact ⟨ret_bool (by first | rfl | simp | omega), below_drewN hb _⟩
theorem pl_first (b : Int) (b0 : 0 ≤ b) (b1 : b ≤ 65535) : pl b 1099511627776 (Int.toNat 0) = b := by
  rw [pl_end _ _ _ (by omega)]
  simp
  omega
theorem draws_key (s dr : Int) (s0 : 0 ≤ s) :
    dr % (2 * s + 1) = (dr + 2 * s + 1) % (2 * s + 1) ∧ ((dr + 1) % (2 * s + 1) = dr % (2 * s + 1) + 1 ∨ (dr % (2 * s + 1) = 2 * s ∧ (dr + 1) % (2 * s + 1) = 0)) ∧ (0 : Int) % (2 * s + 1) = 0 ∧ 2 * s % (2 * s + 1) = 2 * s := by
  refine ⟨?_, ?_, Int.zero_emod _, Int.emod_eq_of_lt (by omega) (by omega)⟩
  · rw [Int.add_assoc, Int.add_emod_right]
  · have y0 : 0 ≤ dr % (2 * s + 1) := Int.emod_nonneg _ (by omega)
    have y1 : dr % (2 * s + 1) < 2 * s + 1 := Int.emod_lt_of_pos _ (by omega)
    have e : (dr + 1) % (2 * s + 1) = (dr % (2 * s + 1) + 1) % (2 * s + 1) := by rw [Int.emod_add_emod]
    rw [e]
    by_cases h : dr % (2 * s + 1) = 2 * s
    · right; exact ⟨h, by rw [h]; exact Int.emod_self⟩
    · left; exact Int.emod_eq_of_lt (by omega) (by omega)
set_option maxHeartbeats 1600000 in
theorem draws_any (b pc dr : Int) (w : World) (b0 : 0 ≤ b) (b1 : b ≤ 65535) (c0 : 0 ≤ pc) (c1 : pc < 18446744073709551616) (r0 : 0 ≤ dr) (r1 : dr ≤ 65535) :
    Calls Try.prog 6 #[.int .u16 b, .int .u64 pc, .int .u16 dr] w fun e w' => e = .returned (.bool true) ∧ Below w.heap.size w w' := by
  have P1 := Lib.hid (fun W => plain_any b 1099511627776 0 W b0 (by omega) (by omega) (by omega) (by omega))
  have hd := pl_first b b0 b1
  obtain ⟨p, hp, p0, p1⟩ : ∃ p, mn pc = p ∧ 0 ≤ p ∧ p ≤ 100 := ⟨_, rfl, (mn_bounds pc c0).1, (mn_bounds pc c0).2⟩
  obtain ⟨s, hs, s0, s1⟩ : ∃ s, s = part b p ∧ 0 ≤ s ∧ s ≤ b := ⟨_, rfl, (part_bounds b p b0 p0 p1).1, (part_bounds b p b0 p0 p1).2⟩
  have D1 := Lib.hid (fun W r (h0 : 0 ≤ r) (h1 : r ≤ 1000000) => delay_any b 1099511627776 0 pc r W b0 (by omega) (by omega) (by omega) (by omega) (by omega) c0 c1 h0 (by omega))
  obtain ⟨k1, k2, k3, k4⟩ := draws_key s dr s0
  have hdl := fun r => dl_at b p r s hs s0 s1 (by omega)
  have y0 : 0 ≤ dr % (2 * s + 1) := Int.emod_nonneg _ (by omega)
  have y1 : dr % (2 * s + 1) < 2 * s + 1 := Int.emod_lt_of_pos _ (by omega)
  obtain ⟨t, ht, t0, t1⟩ : ∃ t, dr % (2 * s + 1) = t ∧ 0 ≤ t ∧ t ≤ 2 * s := ⟨_, rfl, y0, by omega⟩
  have X1 : dl b p dr = b - s + t := by rw [hdl, ht]
  have X3 : dl b p (dr + 2 * s + 1) = b - s + t := by rw [hdl, ← k1, ht]
  have X4 : dl b p 0 = b - s := by rw [hdl, k3]; omega
  have X5 : dl b p (2 * s) = b + s := by rw [hdl, k4]; omega
  obtain ⟨y, X2, hy, y2, y3⟩ : ∃ y, dl b p (dr + 1) = y ∧ (y = b - s + t + 1 ∨ (t = 2 * s ∧ y = b - s)) ∧ 0 ≤ y ∧ y ≤ 200000 := by
    refine ⟨_, hdl _, ?_⟩
    rw [ht] at k2
    rcases k2 with h | ⟨h, h'⟩
    · rw [h]; omega
    · rw [h']; omega
  have g0 : 0 ≤ b * p := Int.mul_nonneg b0 p0
  have g1 : b * p ≤ b * 100 := Int.mul_le_mul_of_nonneg_left p1 b0
  have g3 : b * p / 100 = s := hs.symm
  have g4 : b * p ≤ 6553500 := by omega
  have hpc : (pc ≤ 100 ∧ p = pc) ∨ (100 < pc ∧ p = 100) := by
    rw [← hp]; unfold mn; by_cases h : pc ≤ 100
    · left; exact ⟨h, if_pos h⟩
    · right; exact ⟨by omega, if_neg h⟩
  have HD := Lib.hid hd
  have HP := Lib.hid hp
  have HX := Lib.hid (And.intro X1 (And.intro X2 (And.intro X3 (And.intro X4 X5))))
  clear hd hp hs hdl g1 k1 k2 k3 k4 ht y0 y1 X1 X2 X3 X4 X5
  rcases hpc with ⟨h100, rfl⟩ | ⟨h100, rfl⟩
  case' inr => obtain rfl : s = b := by omega
  all_goals
    rcases hy with rfl | ⟨rfl, rfl⟩
    all_goals
      go_enter Try.func6, Try.ntmps6
      go_wp2_with fail
      refine (awake_any _).mono ?_
      rintro e w1 ⟨rfl, hb⟩
      go_wp2_with fail
      refine (P1.out _).mono ?_
      rintro e w2 ⟨rfl, rfl⟩
      rw [HD.out]
      go_wp2_with fail
      refine (D1.out _ _ r0 (by omega)).mono ?_
      rintro e w2 ⟨q1, rfl, rfl⟩
      rw [HD.out, HP.out, HX.out.1]
      go_wp2_with fail
      refine (D1.out _ _ (by omega) (by omega)).mono ?_
      rintro e w2 ⟨q2, rfl, rfl⟩
      rw [HD.out, HP.out, HX.out.2.1]
      go_wp2_with fail
      refine (D1.out _ _ (by omega) (by omega)).mono ?_
      rintro e w2 ⟨q3, rfl, rfl⟩
      rw [HD.out, HP.out, HX.out.2.2.1]
      go_wp2_with fail
      refine (D1.out _ _ (by omega) (by omega)).mono ?_
      rintro e w2 ⟨q4, rfl, rfl⟩
      rw [HD.out, HP.out, HX.out.2.2.2.1]
      go_wp2_with fail
      refine (D1.out _ _ (by omega) (by omega)).mono ?_
      rintro e w2 ⟨q5, rfl, rfl⟩
      first | rw [HD.out, HP.out, HX.out.2.2.2.2] | rw [HD.out, HP.out, show s + s = 2 * s from by omega, HX.out.2.2.2.2]
      go_wp2_with fail
      all_goals go_ret
      all_goals exact ⟨ret_bool (by first | rfl | simp | omega), by repeat (first | exact hb | refine below_drewN ?_ _)⟩
end Go.Proofs.Ytblpfaapkemnjaa
