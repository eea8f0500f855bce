/- The plain laws of chapter 16 (backoff): numbers alone. No condition. -/
import Derived.Test.YtblpfaapkemnjaaB
namespace Go.Proofs.Ytblpfaapkemnjaa
theorem ret_u64 {a b : Int} (h : a = b) : Ending.returned (.int .u64 a) = .returned (.int .u64 b) := by rw [h]
/-- The wait ahead of try n. -/
def pl (b m : Int) (n : Nat) : Int := if b = 0 then 0 else if b * 2 ^ n ≤ m then b * 2 ^ n else m
theorem two_pow_pos (n : Nat) : (1 : Int) ≤ 2 ^ n := by
  have : (0 : Int) < 2 ^ n := Int.pow_pos (by omega)
  omega
theorem two_mono {a b : Nat} (h : a ≤ b) : (2 : Int) ^ a ≤ 2 ^ b := by
  induction h with
  | refl => exact Int.le_refl _
  | step _ ih =>
    have := two_pow_pos a
    rw [Int.pow_succ]; omega
theorem dbl_mono (b : Int) (h : 0 ≤ b) {i n : Nat} (hi : i ≤ n) : b * 2 ^ i ≤ b * 2 ^ n := Int.mul_le_mul_of_nonneg_left (two_mono hi) h
theorem dbl_succ (b : Int) (i : Nat) : b * 2 ^ (i + 1) = b * 2 ^ i * 2 := by rw [Int.pow_succ, Int.mul_assoc]
/-- Doubling once more is too much: the most it is. -/
theorem pl_over (b m : Int) (i n : Nat) (hb : 0 ≤ b) (hm : m < 18446744073709551616) (hi : i < n) (h : 9223372036854775807 < b * 2 ^ i) : pl b m n = m := by
  have h1 := dbl_mono b hb (show i + 1 ≤ n by omega)
  rw [dbl_succ] at h1
  unfold pl
  rw [if_neg (by rintro rfl; simp at h), if_neg (by omega)]
theorem pl_end (b m : Int) (n : Nat) (hm : 0 ≤ m) : pl b m n = if b * 2 ^ n ≤ m then b * 2 ^ n else m := by
  unfold pl
  split
  · next h => subst h; simp [hm]
  · rfl
theorem pl_zero (m : Int) (n : Nat) : pl 0 m n = 0 := by simp [pl]
theorem pl_stop (b m : Int) (i n : Nat) (hb : 0 ≤ b) (hb1 : b ≠ 0) (hi : i ≤ n) (h : m ≤ b * 2 ^ i) : pl b m n = m := by
  have h1 := dbl_mono b hb hi
  unfold pl
  rw [if_neg hb1]
  split <;> omega
theorem big_out (b : Int) (hb : 0 ≤ b) (h : b * 2 ^ 64 < 18446744073709551616) : b = 0 := by
  have e : (2 : Int) ^ 64 = 18446744073709551616 := rfl
  rw [e] at h
  omega
theorem pl_bounds (b m : Int) (n : Nat) (hb : 0 ≤ b) (hm : 0 ≤ m) : 0 ≤ pl b m n ∧ pl b m n ≤ m := by
  have h1 : 0 ≤ b * 2 ^ n := Int.mul_nonneg hb (by have := two_pow_pos n; omega)
  rw [pl_end b m n hm]
  split <;> omega
/-- A part of d: p of 100. -/
def part (d p : Int) : Int := d * p / 100
theorem part_bounds (d p : Int) (hd : 0 ≤ d) (hp : 0 ≤ p) (hp1 : p ≤ 100) : 0 ≤ part d p ∧ part d p ≤ d := by
  have h1 : 0 ≤ d * p := Int.mul_nonneg hd hp
  have h2 : d * p ≤ d * 100 := Int.mul_le_mul_of_nonneg_left hp1 hd
  unfold part
  omega
theorem part_ref (d p : Int) : d / 100 * p + d % 100 * p / 100 = part d p := by
  unfold part
  have e : d * p = d / 100 * p * 100 + d % 100 * p := by
    have h := Int.mul_ediv_add_emod d 100
    calc d * p = (100 * (d / 100) + d % 100) * p := by rw [h]
      _ = d / 100 * p * 100 + d % 100 * p := by rw [Int.add_mul, Int.mul_comm 100, Int.mul_assoc, Int.mul_comm 100 p, ← Int.mul_assoc]
  rw [e]
  omega
/-- The wait by a draw. -/
def dl (d p draw : Int) : Int :=
  if d - part d p + (if part d p ≤ 9223372036854775807 then draw % (2 * part d p + 1) else draw) ≤ 18446744073709551615
  then d - part d p + (if part d p ≤ 9223372036854775807 then draw % (2 * part d p + 1) else draw) else 18446744073709551615
end Go.Proofs.Ytblpfaapkemnjaa
