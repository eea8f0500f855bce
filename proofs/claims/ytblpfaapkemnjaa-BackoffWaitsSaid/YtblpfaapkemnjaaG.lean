/- backoff.Delay and the reference's Delay: what they compute. No condition but that the numbers fit their kinds. -/
import Derived.Test.YtblpfaapkemnjaaE
namespace Go.Proofs.Ytblpfaapkemnjaa
open Go.RowKit
theorem part_two (d p : Int) : (d * p / 18446744073709551616 * 18446744073709551616 + d * p % 18446744073709551616) / 100 = part d p := by
  unfold part
  congr 1
  omega
theorem hi_small (d p : Int) (d0 : 0 ≤ d) (d1 : d < 18446744073709551616) (p0 : 0 ≤ p) (p1 : p ≤ 100) : 0 ≤ d * p / 18446744073709551616 ∧ d * p / 18446744073709551616 < 100 := by
  have h1 : 0 ≤ d * p := Int.mul_nonneg d0 p0
  have h2 : d * p ≤ d * 100 := Int.mul_le_mul_of_nonneg_left p1 d0
  omega
/-- The wait by a draw, by what the draw leaves. -/
theorem dl_small (d p draw s x : Int) (hs : s = part d p) (h : s ≤ 9223372036854775807) (hx : x = draw % (2 * s + 1)) (hb : d - s + x ≤ 18446744073709551615) : dl d p draw = d - s + x := by
  subst hs hx
  unfold dl
  rw [if_pos h, if_pos hb]
theorem dl_small_max (d p draw s x : Int) (hs : s = part d p) (h : s ≤ 9223372036854775807) (hx : x = draw % (2 * s + 1)) (hb : 18446744073709551615 < d - s + x) : dl d p draw = 18446744073709551615 := by
  subst hs hx
  unfold dl
  rw [if_pos h, if_neg (by omega)]
theorem dl_big (d p draw s : Int) (hs : s = part d p) (h : 9223372036854775807 < s) (hb : d - s + draw ≤ 18446744073709551615) : dl d p draw = d - s + draw := by
  subst hs
  unfold dl
  rw [if_neg (show ¬ part d p ≤ 9223372036854775807 by omega), if_pos hb]
theorem dl_big_max (d p draw s : Int) (hs : s = part d p) (h : 9223372036854775807 < s) (hb : 18446744073709551615 < d - s + draw) : dl d p draw = 18446744073709551615 := by
  subst hs
  unfold dl
  rw [if_neg (show ¬ part d p ≤ 9223372036854775807 by omega), if_neg (show ¬ d - part d p + draw ≤ 18446744073709551615 by omega)]
def mn (percent : Int) : Int := if percent ≤ 100 then percent else 100
theorem mn_bounds (percent : Int) (h : 0 ≤ percent) : 0 ≤ mn percent ∧ mn percent ≤ 100 := by unfold mn; split <;> omega
set_option maxHeartbeats 1600000 in
theorem delay_small (b m n pc dr : Int) (w : World) (b0 : 0 ≤ b) (b1 : b < 18446744073709551616) (m0 : 0 ≤ m) (m1 : m < 18446744073709551616) (n0 : 0 ≤ n) (n1 : n < 18446744073709551616) (c0 : 0 ≤ pc) (c1 : pc < 18446744073709551616) (r0 : 0 ≤ dr) (r1 : dr < 18446744073709551616) (d p s x : Int) (hd : pl b m n.toNat = d) (d0 : 0 ≤ d) (d1 : d < 18446744073709551616) (hp : mn pc = p) (p0 : 0 ≤ p) (p1 : p ≤ 100) (hs : s = part d p) (s0 : 0 ≤ s) (s1 : s ≤ d)
    (hb : s ≤ 9223372036854775807) (hx : dr % (2 * s + 1) = x) (x0 : 0 ≤ x) (x1 : x < 18446744073709551616) (hc : d - s + x ≤ 18446744073709551615):
    Calls Try.prog 10 #[.int .u64 b, .int .u64 m, .int .u64 n, .int .u64 pc, .int .u64 dr] w fun e w' => ∃ q, e = .returned (.int .u64 (dl (pl b m n.toNat) (mn pc) dr)) ∧ w.drewN q = w' := by
  rw [hd, hp]
  have HR := Lib.hid (dl_small d p dr s x hs hb hx.symm hc)
  have hx2 : dr % (s + s + 1) = x := by rw [← hx, show s + s + 1 = 2 * s + 1 from by omega]
  have PL := Lib.hid (fun W => plain_any b m n W b0 b1 m0 m1 n0)
  have M6 := Lib.hid (fun W => mul64_any d p W d0 d1 p0 p1)
  have D6 := Lib.hid (fun W => div64_any (d * p / 18446744073709551616) (d * p % 18446744073709551616) W (hi_small d p d0 d1 p0 p1).1 (hi_small d p d0 d1 p0 p1).2 (by omega) (by omega))
  have AD := Lib.hid (fun W => add64_any (d - s) x (by omega) x0 W)
  have g1 : (d - s + x) % 18446744073709551616 = d - s + x := by omega
  have g2 : (d - s + x) / 18446744073709551616 = 0 := by omega
  have HD := Lib.hid hd
  have HS := Lib.hid hs
  have hpc : (pc ≤ 100 ∧ p = pc) ∨ (100 < pc ∧ p = 100) := by
    rw [← hp]; unfold mn; by_cases h : pc ≤ 100
    · left; exact ⟨h, if_pos h⟩
    · right; exact ⟨by omega, if_neg h⟩
  clear hd hs hp b0 b1 m0 m1 n0 n1
  rcases hpc with ⟨h100, rfl⟩ | ⟨h100, rfl⟩
  · go_enter Try.func10, Try.ntmps10
    go_wp2_with fail
    refine (PL.out _).mono ?_
    rintro e w1 ⟨rfl, rfl⟩
    rw [HD.out]
    go_wp2_with fail
    refine (M6.out _).mono ?_
    rintro e w1 ⟨rfl, rfl⟩
    go_wp2_with fail
    refine (D6.out _).mono ?_
    rintro e w1 ⟨r, q, rfl, rfl⟩
    rw [part_two, ← HS.out]
    have ad := AD.out
    go_wp2_with fail
    go_ret
    exact ⟨q, ret_u64 HR.out.symm, rfl⟩
  · go_enter Try.func10, Try.ntmps10
    go_wp2_with fail
    refine (PL.out _).mono ?_
    rintro e w1 ⟨rfl, rfl⟩
    rw [HD.out]
    go_wp2_with fail
    refine (M6.out _).mono ?_
    rintro e w1 ⟨rfl, rfl⟩
    go_wp2_with fail
    refine (D6.out _).mono ?_
    rintro e w1 ⟨r, q, rfl, rfl⟩
    rw [part_two, ← HS.out]
    have ad := AD.out
    go_wp2_with fail
    go_ret
    exact ⟨q, ret_u64 HR.out.symm, rfl⟩
set_option maxHeartbeats 1600000 in
theorem delay_small_over (b m n pc dr : Int) (w : World) (b0 : 0 ≤ b) (b1 : b < 18446744073709551616) (m0 : 0 ≤ m) (m1 : m < 18446744073709551616) (n0 : 0 ≤ n) (n1 : n < 18446744073709551616) (c0 : 0 ≤ pc) (c1 : pc < 18446744073709551616) (r0 : 0 ≤ dr) (r1 : dr < 18446744073709551616) (d p s x : Int) (hd : pl b m n.toNat = d) (d0 : 0 ≤ d) (d1 : d < 18446744073709551616) (hp : mn pc = p) (p0 : 0 ≤ p) (p1 : p ≤ 100) (hs : s = part d p) (s0 : 0 ≤ s) (s1 : s ≤ d)
    (hb : s ≤ 9223372036854775807) (hx : dr % (2 * s + 1) = x) (x0 : 0 ≤ x) (x1 : x < 18446744073709551616) (hc : 18446744073709551615 < d - s + x):
    Calls Try.prog 10 #[.int .u64 b, .int .u64 m, .int .u64 n, .int .u64 pc, .int .u64 dr] w fun e w' => ∃ q, e = .returned (.int .u64 (dl (pl b m n.toNat) (mn pc) dr)) ∧ w.drewN q = w' := by
  rw [hd, hp]
  have HR := Lib.hid (dl_small_max d p dr s x hs hb hx.symm hc)
  have hx2 : dr % (s + s + 1) = x := by rw [← hx, show s + s + 1 = 2 * s + 1 from by omega]
  have PL := Lib.hid (fun W => plain_any b m n W b0 b1 m0 m1 n0)
  have M6 := Lib.hid (fun W => mul64_any d p W d0 d1 p0 p1)
  have D6 := Lib.hid (fun W => div64_any (d * p / 18446744073709551616) (d * p % 18446744073709551616) W (hi_small d p d0 d1 p0 p1).1 (hi_small d p d0 d1 p0 p1).2 (by omega) (by omega))
  have AD := Lib.hid (fun W => add64_any (d - s) x (by omega) x0 W)
  have g1 : (d - s + x) / 18446744073709551616 = 1 := by omega
  have HD := Lib.hid hd
  have HS := Lib.hid hs
  have hpc : (pc ≤ 100 ∧ p = pc) ∨ (100 < pc ∧ p = 100) := by
    rw [← hp]; unfold mn; by_cases h : pc ≤ 100
    · left; exact ⟨h, if_pos h⟩
    · right; exact ⟨by omega, if_neg h⟩
  clear hd hs hp b0 b1 m0 m1 n0 n1
  rcases hpc with ⟨h100, rfl⟩ | ⟨h100, rfl⟩
  · go_enter Try.func10, Try.ntmps10
    go_wp2_with fail
    refine (PL.out _).mono ?_
    rintro e w1 ⟨rfl, rfl⟩
    rw [HD.out]
    go_wp2_with fail
    refine (M6.out _).mono ?_
    rintro e w1 ⟨rfl, rfl⟩
    go_wp2_with fail
    refine (D6.out _).mono ?_
    rintro e w1 ⟨r, q, rfl, rfl⟩
    rw [part_two, ← HS.out]
    have ad := AD.out
    go_wp2_with fail
    go_ret
    exact ⟨q, ret_u64 HR.out.symm, rfl⟩
  · go_enter Try.func10, Try.ntmps10
    go_wp2_with fail
    refine (PL.out _).mono ?_
    rintro e w1 ⟨rfl, rfl⟩
    rw [HD.out]
    go_wp2_with fail
    refine (M6.out _).mono ?_
    rintro e w1 ⟨rfl, rfl⟩
    go_wp2_with fail
    refine (D6.out _).mono ?_
    rintro e w1 ⟨r, q, rfl, rfl⟩
    rw [part_two, ← HS.out]
    have ad := AD.out
    go_wp2_with fail
    go_ret
    exact ⟨q, ret_u64 HR.out.symm, rfl⟩
set_option maxHeartbeats 1600000 in
theorem delay_big (b m n pc dr : Int) (w : World) (b0 : 0 ≤ b) (b1 : b < 18446744073709551616) (m0 : 0 ≤ m) (m1 : m < 18446744073709551616) (n0 : 0 ≤ n) (n1 : n < 18446744073709551616) (c0 : 0 ≤ pc) (c1 : pc < 18446744073709551616) (r0 : 0 ≤ dr) (r1 : dr < 18446744073709551616) (d p s x : Int) (hd : pl b m n.toNat = d) (d0 : 0 ≤ d) (d1 : d < 18446744073709551616) (hp : mn pc = p) (p0 : 0 ≤ p) (p1 : p ≤ 100) (hs : s = part d p) (s0 : 0 ≤ s) (s1 : s ≤ d)
    (hb : 9223372036854775807 < s) (hx : x = dr) (x0 : 0 ≤ x) (x1 : x < 18446744073709551616) (hc : d - s + x ≤ 18446744073709551615):
    Calls Try.prog 10 #[.int .u64 b, .int .u64 m, .int .u64 n, .int .u64 pc, .int .u64 dr] w fun e w' => ∃ q, e = .returned (.int .u64 (dl (pl b m n.toNat) (mn pc) dr)) ∧ w.drewN q = w' := by
  rw [hd, hp]
  subst hx
  have HR := Lib.hid (dl_big d p x s hs hb hc)
  have PL := Lib.hid (fun W => plain_any b m n W b0 b1 m0 m1 n0)
  have M6 := Lib.hid (fun W => mul64_any d p W d0 d1 p0 p1)
  have D6 := Lib.hid (fun W => div64_any (d * p / 18446744073709551616) (d * p % 18446744073709551616) W (hi_small d p d0 d1 p0 p1).1 (hi_small d p d0 d1 p0 p1).2 (by omega) (by omega))
  have AD := Lib.hid (fun W => add64_any (d - s) x (by omega) x0 W)
  have g1 : (d - s + x) % 18446744073709551616 = d - s + x := by omega
  have g2 : (d - s + x) / 18446744073709551616 = 0 := by omega
  have HD := Lib.hid hd
  have HS := Lib.hid hs
  have hpc : (pc ≤ 100 ∧ p = pc) ∨ (100 < pc ∧ p = 100) := by
    rw [← hp]; unfold mn; by_cases h : pc ≤ 100
    · left; exact ⟨h, if_pos h⟩
    · right; exact ⟨by omega, if_neg h⟩
  clear hd hs hp b0 b1 m0 m1 n0 n1
  rcases hpc with ⟨h100, rfl⟩ | ⟨h100, rfl⟩
  · go_enter Try.func10, Try.ntmps10
    go_wp2_with fail
    refine (PL.out _).mono ?_
    rintro e w1 ⟨rfl, rfl⟩
    rw [HD.out]
    go_wp2_with fail
    refine (M6.out _).mono ?_
    rintro e w1 ⟨rfl, rfl⟩
    go_wp2_with fail
    refine (D6.out _).mono ?_
    rintro e w1 ⟨r, q, rfl, rfl⟩
    rw [part_two, ← HS.out]
    have ad := AD.out
    go_wp2_with fail
    go_ret
    exact ⟨q, ret_u64 HR.out.symm, rfl⟩
  · go_enter Try.func10, Try.ntmps10
    go_wp2_with fail
    refine (PL.out _).mono ?_
    rintro e w1 ⟨rfl, rfl⟩
    rw [HD.out]
    go_wp2_with fail
    refine (M6.out _).mono ?_
    rintro e w1 ⟨rfl, rfl⟩
    go_wp2_with fail
    refine (D6.out _).mono ?_
    rintro e w1 ⟨r, q, rfl, rfl⟩
    rw [part_two, ← HS.out]
    have ad := AD.out
    go_wp2_with fail
    go_ret
    exact ⟨q, ret_u64 HR.out.symm, rfl⟩
set_option maxHeartbeats 1600000 in
theorem delay_big_over (b m n pc dr : Int) (w : World) (b0 : 0 ≤ b) (b1 : b < 18446744073709551616) (m0 : 0 ≤ m) (m1 : m < 18446744073709551616) (n0 : 0 ≤ n) (n1 : n < 18446744073709551616) (c0 : 0 ≤ pc) (c1 : pc < 18446744073709551616) (r0 : 0 ≤ dr) (r1 : dr < 18446744073709551616) (d p s x : Int) (hd : pl b m n.toNat = d) (d0 : 0 ≤ d) (d1 : d < 18446744073709551616) (hp : mn pc = p) (p0 : 0 ≤ p) (p1 : p ≤ 100) (hs : s = part d p) (s0 : 0 ≤ s) (s1 : s ≤ d)
    (hb : 9223372036854775807 < s) (hx : x = dr) (x0 : 0 ≤ x) (x1 : x < 18446744073709551616) (hc : 18446744073709551615 < d - s + x):
    Calls Try.prog 10 #[.int .u64 b, .int .u64 m, .int .u64 n, .int .u64 pc, .int .u64 dr] w fun e w' => ∃ q, e = .returned (.int .u64 (dl (pl b m n.toNat) (mn pc) dr)) ∧ w.drewN q = w' := by
  rw [hd, hp]
  subst hx
  have HR := Lib.hid (dl_big_max d p x s hs hb hc)
  have PL := Lib.hid (fun W => plain_any b m n W b0 b1 m0 m1 n0)
  have M6 := Lib.hid (fun W => mul64_any d p W d0 d1 p0 p1)
  have D6 := Lib.hid (fun W => div64_any (d * p / 18446744073709551616) (d * p % 18446744073709551616) W (hi_small d p d0 d1 p0 p1).1 (hi_small d p d0 d1 p0 p1).2 (by omega) (by omega))
  have AD := Lib.hid (fun W => add64_any (d - s) x (by omega) x0 W)
  have g1 : (d - s + x) / 18446744073709551616 = 1 := by omega
  have HD := Lib.hid hd
  have HS := Lib.hid hs
  have hpc : (pc ≤ 100 ∧ p = pc) ∨ (100 < pc ∧ p = 100) := by
    rw [← hp]; unfold mn; by_cases h : pc ≤ 100
    · left; exact ⟨h, if_pos h⟩
    · right; exact ⟨by omega, if_neg h⟩
  clear hd hs hp b0 b1 m0 m1 n0 n1
  rcases hpc with ⟨h100, rfl⟩ | ⟨h100, rfl⟩
  · go_enter Try.func10, Try.ntmps10
    go_wp2_with fail
    refine (PL.out _).mono ?_
    rintro e w1 ⟨rfl, rfl⟩
    rw [HD.out]
    go_wp2_with fail
    refine (M6.out _).mono ?_
    rintro e w1 ⟨rfl, rfl⟩
    go_wp2_with fail
    refine (D6.out _).mono ?_
    rintro e w1 ⟨r, q, rfl, rfl⟩
    rw [part_two, ← HS.out]
    have ad := AD.out
    go_wp2_with fail
    go_ret
    exact ⟨q, ret_u64 HR.out.symm, rfl⟩
  · go_enter Try.func10, Try.ntmps10
    go_wp2_with fail
    refine (PL.out _).mono ?_
    rintro e w1 ⟨rfl, rfl⟩
    rw [HD.out]
    go_wp2_with fail
    refine (M6.out _).mono ?_
    rintro e w1 ⟨rfl, rfl⟩
    go_wp2_with fail
    refine (D6.out _).mono ?_
    rintro e w1 ⟨r, q, rfl, rfl⟩
    rw [part_two, ← HS.out]
    have ad := AD.out
    go_wp2_with fail
    go_ret
    exact ⟨q, ret_u64 HR.out.symm, rfl⟩
theorem delay_any (b m n pc dr : Int) (w : World) (b0 : 0 ≤ b) (b1 : b < 18446744073709551616) (m0 : 0 ≤ m) (m1 : m < 18446744073709551616) (n0 : 0 ≤ n) (n1 : n < 18446744073709551616) (c0 : 0 ≤ pc) (c1 : pc < 18446744073709551616) (r0 : 0 ≤ dr) (r1 : dr < 18446744073709551616) :
    Calls Try.prog 10 #[.int .u64 b, .int .u64 m, .int .u64 n, .int .u64 pc, .int .u64 dr] w fun e w' => ∃ q, e = .returned (.int .u64 (dl (pl b m n.toNat) (mn pc) dr)) ∧ w.drewN q = w' := by
  have d0 := (pl_bounds b m n.toNat b0 m0).1
  have d1 := (pl_bounds b m n.toNat b0 m0).2
  have p0 := (mn_bounds pc c0).1
  have p1 := (mn_bounds pc c0).2
  have s0 := (part_bounds _ _ d0 p0 p1).1
  have s1 := (part_bounds _ _ d0 p0 p1).2
  by_cases hb : part (pl b m n.toNat) (mn pc) ≤ 9223372036854775807
  · have x0 : 0 ≤ dr % (2 * part (pl b m n.toNat) (mn pc) + 1) := Int.emod_nonneg _ (by omega)
    have x1 : dr % (2 * part (pl b m n.toNat) (mn pc) + 1) < 2 * part (pl b m n.toNat) (mn pc) + 1 := Int.emod_lt_of_pos _ (by omega)
    by_cases hc : pl b m n.toNat - part (pl b m n.toNat) (mn pc) + dr % (2 * part (pl b m n.toNat) (mn pc) + 1) ≤ 18446744073709551615
    · exact delay_small b m n pc dr w b0 b1 m0 m1 n0 n1 c0 c1 r0 r1 _ _ _ _ rfl d0 (by omega) rfl p0 p1 rfl s0 s1 hb rfl x0 (by omega) hc
    · exact delay_small_over b m n pc dr w b0 b1 m0 m1 n0 n1 c0 c1 r0 r1 _ _ _ _ rfl d0 (by omega) rfl p0 p1 rfl s0 s1 hb rfl x0 (by omega) (by omega)
  · by_cases hc : pl b m n.toNat - part (pl b m n.toNat) (mn pc) + dr ≤ 18446744073709551615
    · exact delay_big b m n pc dr w b0 b1 m0 m1 n0 n1 c0 c1 r0 r1 _ _ _ dr rfl d0 (by omega) rfl p0 p1 rfl s0 s1 (by omega) rfl r0 r1 hc
    · exact delay_big_over b m n pc dr w b0 b1 m0 m1 n0 n1 c0 c1 r0 r1 _ _ _ dr rfl d0 (by omega) rfl p0 p1 rfl s0 s1 (by omega) rfl r0 r1 (by omega)
set_option maxHeartbeats 1600000 in
theorem rdelay_small (b m n pc dr : Int) (w : World) (b0 : 0 ≤ b) (b1 : b < 18446744073709551616) (m0 : 0 ≤ m) (m1 : m < 18446744073709551616) (n0 : 0 ≤ n) (n1 : n < 18446744073709551616) (c0 : 0 ≤ pc) (c1 : pc < 18446744073709551616) (r0 : 0 ≤ dr) (r1 : dr < 18446744073709551616) (d p s x : Int) (hd : pl b m n.toNat = d) (d0 : 0 ≤ d) (d1 : d < 18446744073709551616) (hp : mn pc = p) (p0 : 0 ≤ p) (p1 : p ≤ 100) (hs : s = part d p) (s0 : 0 ≤ s) (s1 : s ≤ d)
    (hb : s ≤ 9223372036854775807) (hx : dr % (2 * s + 1) = x) (x0 : 0 ≤ x) (x1 : x < 18446744073709551616) (hc : d - s + x ≤ 18446744073709551615):
    Calls Try.prog 11 #[.int .u64 b, .int .u64 m, .int .u64 n, .int .u64 pc, .int .u64 dr] w fun e w' => e = .returned (.int .u64 (dl (pl b m n.toNat) (mn pc) dr)) ∧ w = w' := by
  rw [hd, hp]
  have HR := Lib.hid (dl_small d p dr s x hs hb hx.symm hc)
  have hx2 : dr % (s + s + 1) = x := by rw [← hx, show s + s + 1 = 2 * s + 1 from by omega]
  have PL := Lib.hid (fun W => rplain_any b m n W b0 b1 m0 m1 n0 n1)
  have PA := Lib.hid (fun W => rpart_any d p W d0 d1 p0 p1)
  have HD := Lib.hid hd
  have HS := Lib.hid hs
  have hpc : (pc ≤ 100 ∧ p = pc) ∨ (100 < pc ∧ p = 100) := by
    rw [← hp]; unfold mn; by_cases h : pc ≤ 100
    · left; exact ⟨h, if_pos h⟩
    · right; exact ⟨by omega, if_neg h⟩
  clear hd hs hp b0 b1 m0 m1 n0 n1
  rcases hpc with ⟨h100, rfl⟩ | ⟨h100, rfl⟩
  · go_enter Try.func11, Try.ntmps11
    go_wp2_with fail
    refine (PL.out _).mono ?_
    rintro e w1 ⟨rfl, rfl⟩
    rw [HD.out]
    go_wp2_with fail
    refine (PA.out _).mono ?_
    rintro e w1 ⟨rfl, rfl⟩
    rw [← HS.out]
    go_wp2_with fail
    go_ret
    exact ⟨ret_u64 HR.out.symm, rfl⟩
  · go_enter Try.func11, Try.ntmps11
    go_wp2_with fail
    refine (PL.out _).mono ?_
    rintro e w1 ⟨rfl, rfl⟩
    rw [HD.out]
    go_wp2_with fail
    refine (PA.out _).mono ?_
    rintro e w1 ⟨rfl, rfl⟩
    rw [← HS.out]
    go_wp2_with fail
    go_ret
    exact ⟨ret_u64 HR.out.symm, rfl⟩
set_option maxHeartbeats 1600000 in
theorem rdelay_small_over (b m n pc dr : Int) (w : World) (b0 : 0 ≤ b) (b1 : b < 18446744073709551616) (m0 : 0 ≤ m) (m1 : m < 18446744073709551616) (n0 : 0 ≤ n) (n1 : n < 18446744073709551616) (c0 : 0 ≤ pc) (c1 : pc < 18446744073709551616) (r0 : 0 ≤ dr) (r1 : dr < 18446744073709551616) (d p s x : Int) (hd : pl b m n.toNat = d) (d0 : 0 ≤ d) (d1 : d < 18446744073709551616) (hp : mn pc = p) (p0 : 0 ≤ p) (p1 : p ≤ 100) (hs : s = part d p) (s0 : 0 ≤ s) (s1 : s ≤ d)
    (hb : s ≤ 9223372036854775807) (hx : dr % (2 * s + 1) = x) (x0 : 0 ≤ x) (x1 : x < 18446744073709551616) (hc : 18446744073709551615 < d - s + x):
    Calls Try.prog 11 #[.int .u64 b, .int .u64 m, .int .u64 n, .int .u64 pc, .int .u64 dr] w fun e w' => e = .returned (.int .u64 (dl (pl b m n.toNat) (mn pc) dr)) ∧ w = w' := by
  rw [hd, hp]
  have HR := Lib.hid (dl_small_max d p dr s x hs hb hx.symm hc)
  have hx2 : dr % (s + s + 1) = x := by rw [← hx, show s + s + 1 = 2 * s + 1 from by omega]
  have PL := Lib.hid (fun W => rplain_any b m n W b0 b1 m0 m1 n0 n1)
  have PA := Lib.hid (fun W => rpart_any d p W d0 d1 p0 p1)
  have HD := Lib.hid hd
  have HS := Lib.hid hs
  have hpc : (pc ≤ 100 ∧ p = pc) ∨ (100 < pc ∧ p = 100) := by
    rw [← hp]; unfold mn; by_cases h : pc ≤ 100
    · left; exact ⟨h, if_pos h⟩
    · right; exact ⟨by omega, if_neg h⟩
  clear hd hs hp b0 b1 m0 m1 n0 n1
  rcases hpc with ⟨h100, rfl⟩ | ⟨h100, rfl⟩
  · go_enter Try.func11, Try.ntmps11
    go_wp2_with fail
    refine (PL.out _).mono ?_
    rintro e w1 ⟨rfl, rfl⟩
    rw [HD.out]
    go_wp2_with fail
    refine (PA.out _).mono ?_
    rintro e w1 ⟨rfl, rfl⟩
    rw [← HS.out]
    go_wp2_with fail
    go_ret
    exact ⟨ret_u64 HR.out.symm, rfl⟩
  · go_enter Try.func11, Try.ntmps11
    go_wp2_with fail
    refine (PL.out _).mono ?_
    rintro e w1 ⟨rfl, rfl⟩
    rw [HD.out]
    go_wp2_with fail
    refine (PA.out _).mono ?_
    rintro e w1 ⟨rfl, rfl⟩
    rw [← HS.out]
    go_wp2_with fail
    go_ret
    exact ⟨ret_u64 HR.out.symm, rfl⟩
set_option maxHeartbeats 1600000 in
theorem rdelay_big (b m n pc dr : Int) (w : World) (b0 : 0 ≤ b) (b1 : b < 18446744073709551616) (m0 : 0 ≤ m) (m1 : m < 18446744073709551616) (n0 : 0 ≤ n) (n1 : n < 18446744073709551616) (c0 : 0 ≤ pc) (c1 : pc < 18446744073709551616) (r0 : 0 ≤ dr) (r1 : dr < 18446744073709551616) (d p s x : Int) (hd : pl b m n.toNat = d) (d0 : 0 ≤ d) (d1 : d < 18446744073709551616) (hp : mn pc = p) (p0 : 0 ≤ p) (p1 : p ≤ 100) (hs : s = part d p) (s0 : 0 ≤ s) (s1 : s ≤ d)
    (hb : 9223372036854775807 < s) (hx : x = dr) (x0 : 0 ≤ x) (x1 : x < 18446744073709551616) (hc : d - s + x ≤ 18446744073709551615):
    Calls Try.prog 11 #[.int .u64 b, .int .u64 m, .int .u64 n, .int .u64 pc, .int .u64 dr] w fun e w' => e = .returned (.int .u64 (dl (pl b m n.toNat) (mn pc) dr)) ∧ w = w' := by
  rw [hd, hp]
  subst hx
  have HR := Lib.hid (dl_big d p x s hs hb hc)
  have PL := Lib.hid (fun W => rplain_any b m n W b0 b1 m0 m1 n0 n1)
  have PA := Lib.hid (fun W => rpart_any d p W d0 d1 p0 p1)
  have HD := Lib.hid hd
  have HS := Lib.hid hs
  have hpc : (pc ≤ 100 ∧ p = pc) ∨ (100 < pc ∧ p = 100) := by
    rw [← hp]; unfold mn; by_cases h : pc ≤ 100
    · left; exact ⟨h, if_pos h⟩
    · right; exact ⟨by omega, if_neg h⟩
  clear hd hs hp b0 b1 m0 m1 n0 n1
  rcases hpc with ⟨h100, rfl⟩ | ⟨h100, rfl⟩
  · go_enter Try.func11, Try.ntmps11
    go_wp2_with fail
    refine (PL.out _).mono ?_
    rintro e w1 ⟨rfl, rfl⟩
    rw [HD.out]
    go_wp2_with fail
    refine (PA.out _).mono ?_
    rintro e w1 ⟨rfl, rfl⟩
    rw [← HS.out]
    go_wp2_with fail
    go_ret
    exact ⟨ret_u64 HR.out.symm, rfl⟩
  · go_enter Try.func11, Try.ntmps11
    go_wp2_with fail
    refine (PL.out _).mono ?_
    rintro e w1 ⟨rfl, rfl⟩
    rw [HD.out]
    go_wp2_with fail
    refine (PA.out _).mono ?_
    rintro e w1 ⟨rfl, rfl⟩
    rw [← HS.out]
    go_wp2_with fail
    go_ret
    exact ⟨ret_u64 HR.out.symm, rfl⟩
set_option maxHeartbeats 1600000 in
theorem rdelay_big_over (b m n pc dr : Int) (w : World) (b0 : 0 ≤ b) (b1 : b < 18446744073709551616) (m0 : 0 ≤ m) (m1 : m < 18446744073709551616) (n0 : 0 ≤ n) (n1 : n < 18446744073709551616) (c0 : 0 ≤ pc) (c1 : pc < 18446744073709551616) (r0 : 0 ≤ dr) (r1 : dr < 18446744073709551616) (d p s x : Int) (hd : pl b m n.toNat = d) (d0 : 0 ≤ d) (d1 : d < 18446744073709551616) (hp : mn pc = p) (p0 : 0 ≤ p) (p1 : p ≤ 100) (hs : s = part d p) (s0 : 0 ≤ s) (s1 : s ≤ d)
    (hb : 9223372036854775807 < s) (hx : x = dr) (x0 : 0 ≤ x) (x1 : x < 18446744073709551616) (hc : 18446744073709551615 < d - s + x):
    Calls Try.prog 11 #[.int .u64 b, .int .u64 m, .int .u64 n, .int .u64 pc, .int .u64 dr] w fun e w' => e = .returned (.int .u64 (dl (pl b m n.toNat) (mn pc) dr)) ∧ w = w' := by
  rw [hd, hp]
  subst hx
  have HR := Lib.hid (dl_big_max d p x s hs hb hc)
  have PL := Lib.hid (fun W => rplain_any b m n W b0 b1 m0 m1 n0 n1)
  have PA := Lib.hid (fun W => rpart_any d p W d0 d1 p0 p1)
  have HD := Lib.hid hd
  have HS := Lib.hid hs
  have hpc : (pc ≤ 100 ∧ p = pc) ∨ (100 < pc ∧ p = 100) := by
    rw [← hp]; unfold mn; by_cases h : pc ≤ 100
    · left; exact ⟨h, if_pos h⟩
    · right; exact ⟨by omega, if_neg h⟩
  clear hd hs hp b0 b1 m0 m1 n0 n1
  rcases hpc with ⟨h100, rfl⟩ | ⟨h100, rfl⟩
  · go_enter Try.func11, Try.ntmps11
    go_wp2_with fail
    refine (PL.out _).mono ?_
    rintro e w1 ⟨rfl, rfl⟩
    rw [HD.out]
    go_wp2_with fail
    refine (PA.out _).mono ?_
    rintro e w1 ⟨rfl, rfl⟩
    rw [← HS.out]
    go_wp2_with fail
    go_ret
    exact ⟨ret_u64 HR.out.symm, rfl⟩
  · go_enter Try.func11, Try.ntmps11
    go_wp2_with fail
    refine (PL.out _).mono ?_
    rintro e w1 ⟨rfl, rfl⟩
    rw [HD.out]
    go_wp2_with fail
    refine (PA.out _).mono ?_
    rintro e w1 ⟨rfl, rfl⟩
    rw [← HS.out]
    go_wp2_with fail
    go_ret
    exact ⟨ret_u64 HR.out.symm, rfl⟩
theorem rdelay_any (b m n pc dr : Int) (w : World) (b0 : 0 ≤ b) (b1 : b < 18446744073709551616) (m0 : 0 ≤ m) (m1 : m < 18446744073709551616) (n0 : 0 ≤ n) (n1 : n < 18446744073709551616) (c0 : 0 ≤ pc) (c1 : pc < 18446744073709551616) (r0 : 0 ≤ dr) (r1 : dr < 18446744073709551616) :
    Calls Try.prog 11 #[.int .u64 b, .int .u64 m, .int .u64 n, .int .u64 pc, .int .u64 dr] w fun e w' => e = .returned (.int .u64 (dl (pl b m n.toNat) (mn pc) dr)) ∧ w = w' := by
  have d0 := (pl_bounds b m n.toNat b0 m0).1
  have d1 := (pl_bounds b m n.toNat b0 m0).2
  have p0 := (mn_bounds pc c0).1
  have p1 := (mn_bounds pc c0).2
  have s0 := (part_bounds _ _ d0 p0 p1).1
  have s1 := (part_bounds _ _ d0 p0 p1).2
  by_cases hb : part (pl b m n.toNat) (mn pc) ≤ 9223372036854775807
  · have x0 : 0 ≤ dr % (2 * part (pl b m n.toNat) (mn pc) + 1) := Int.emod_nonneg _ (by omega)
    have x1 : dr % (2 * part (pl b m n.toNat) (mn pc) + 1) < 2 * part (pl b m n.toNat) (mn pc) + 1 := Int.emod_lt_of_pos _ (by omega)
    by_cases hc : pl b m n.toNat - part (pl b m n.toNat) (mn pc) + dr % (2 * part (pl b m n.toNat) (mn pc) + 1) ≤ 18446744073709551615
    · exact rdelay_small b m n pc dr w b0 b1 m0 m1 n0 n1 c0 c1 r0 r1 _ _ _ _ rfl d0 (by omega) rfl p0 p1 rfl s0 s1 hb rfl x0 (by omega) hc
    · exact rdelay_small_over b m n pc dr w b0 b1 m0 m1 n0 n1 c0 c1 r0 r1 _ _ _ _ rfl d0 (by omega) rfl p0 p1 rfl s0 s1 hb rfl x0 (by omega) (by omega)
  · by_cases hc : pl b m n.toNat - part (pl b m n.toNat) (mn pc) + dr ≤ 18446744073709551615
    · exact rdelay_big b m n pc dr w b0 b1 m0 m1 n0 n1 c0 c1 r0 r1 _ _ _ dr rfl d0 (by omega) rfl p0 p1 rfl s0 s1 (by omega) rfl r0 r1 hc
    · exact rdelay_big_over b m n pc dr w b0 b1 m0 m1 n0 n1 c0 c1 r0 r1 _ _ _ dr rfl d0 (by omega) rfl p0 p1 rfl s0 s1 (by omega) rfl r0 r1 (by omega)
end Go.Proofs.Ytblpfaapkemnjaa
