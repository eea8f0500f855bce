/- octets.Signed and the reference's Signed: what they compute. No condition but that the numbers fit their kinds. -/
import Derived.Test.YtkjgaibkajafaaaOE
namespace Go.Proofs.Ytkjgaibkajafaaa
open Go.RowKit
/-- The rest of x in n bytes, with its sign. -/
def sgn (x : Int) (n : Nat) : Int := if 2 * (x % 256 ^ n) < 256 ^ n then x % 256 ^ n else x % 256 ^ n - 256 ^ n
theorem signed_no (x n : Int) (w : World) (h : ¬ (1 ≤ n ∧ n ≤ 8)) : Calls Try.prog 11 #[.int .u64 x, .int .i64 n] w fun e w' => e = .returned (.int .i64 0) ∧ w = w' := by
  go_enter Try.func11, Try.ntmps11
  go_wp2_with fail
  refine (size_no _ _ h).mono ?_
  rintro e w' ⟨rfl, rfl⟩
  go_wp2_with fail
  go_ret
  exact ⟨rfl, rfl⟩
theorem signed_any (x n : Int) (w : World) (hx0 : 0 ≤ x) (hx1 : x < 18446744073709551616) (h1 : 1 ≤ n) (h8 : n ≤ 8) : Calls Try.prog 11 #[.int .u64 x, .int .i64 n] w fun e w' => e = .returned (.int .i64 (sgn x n.toNat)) ∧ w = w' := by
  have hn : n = 1 ∨ n = 2 ∨ n = 3 ∨ n = 4 ∨ n = 5 ∨ n = 6 ∨ n = 7 ∨ n = 8 := by omega
  rcases hn with rfl | rfl | rfl | rfl | rfl | rfl | rfl | rfl
  all_goals
    go_enter Try.func11, Try.ntmps11
    go_wp2_with fail
    refine (size_yes _ _ h1 h8).mono ?_
    rintro e w' ⟨rfl, rfl⟩
    go_wp2_with fail
    go_ret
    refine ⟨ret_int ?_, rfl⟩
    simp only [sgn, wrap64, IntKind.wrap_u64, Int.reduceToNat, Int.reducePow]
    split <;> omega
/-- What the reference has after k bytes. -/
def sgS (off : Int) (l : List UInt8) (k : Nat) : Int := if k = 0 then 0 else getV (l.take k) - off * 256 ^ k
theorem sgS_first (l : List UInt8) (h : 0 < l.length) (off : Int) : sgS off l 1 = (l[0].toNat : Int) - off * 256 := by
  have := getV_snoc (l.take 0) l[0]
  rw [← take_snoc l 0 h] at this
  simp only [sgS, this]
  simp [getV]
theorem sgS_step (l : List UInt8) (k : Nat) (off : Int) (hk : k ≠ 0) (h : k < l.length) : sgS off l (k + 1) = sgS off l k * 256 + (l[k].toNat : Int) := by
  have := getV_snoc (l.take k) l[k]
  rw [← take_snoc l k h] at this
  simp only [sgS, this, if_neg hk, if_neg (Nat.succ_ne_zero k), Int.pow_succ]
  rw [Int.sub_mul, Int.mul_assoc off]
  omega
theorem emod_two (y P : Int) : y % (256 * P) = y % 256 + 256 * (y / 256 % P) := by
  rw [Int.emod_def y (256 * P), Int.emod_def (y / 256) P, ← Int.ediv_ediv_of_nonneg (show (0 : Int) ≤ 256 by omega), Int.mul_assoc, Int.mul_sub]
  omega
theorem getV_putB (x : Int) (n : Nat) : getV (putB x n) = x % 256 ^ n := by
  have hgen : ∀ k, k ≤ n → getV ((putB x n).take k) = x / 256 ^ (n - k) % 256 ^ k := by
    intro k
    induction k with
    | zero => intro _; simp [getV]
    | succ k ih =>
      intro hk
      rw [putB_take x n k (by omega), getV_snoc, ih (by omega), dg_val, dig]
      have e1 : x / 256 ^ (n - k) = x / 256 ^ (n - (k + 1)) / 256 := by
        rw [div_step, show n - (k + 1) + 1 = n - k from by omega]
      have e2 : n - 1 - k = n - (k + 1) := by omega
      rw [e1, e2]
      generalize x / 256 ^ (n - (k + 1)) = y
      have h1 : y % 256 ^ (k + 1) = y % 256 + 256 * (y / 256 % 256 ^ k) := by
        rw [Int.pow_succ, Int.mul_comm (256 ^ k) 256, emod_two]
      rw [h1]; omega
  have := hgen n (Nat.le_refl _)
  rw [List.take_of_length_le (by rw [putB_len]; exact Nat.le_refl _), Nat.sub_self] at this
  simpa using this
theorem sgS_bd (l : List UInt8) (off : Int) (h0 : 0 < l.length) (ho : off = if 128 ≤ l[0].toNat then 1 else 0) : ∀ k, k < l.length → -(128 * 256 ^ k) ≤ sgS off l (k + 1) ∧ sgS off l (k + 1) < 128 * 256 ^ k := by
  intro k
  induction k with
  | zero =>
    intro _
    have hb := l[0].toNat_lt
    rw [sgS_first l h0]
    split at ho <;> subst ho <;> omega
  | succ k ih =>
    intro hk
    have hb := l[k + 1].toNat_lt
    have := ih (by omega)
    rw [sgS_step l (k + 1) off (Nat.succ_ne_zero k) hk, Int.pow_succ]
    omega
theorem sgS_wrap (l : List UInt8) (off : Int) (h0 : 0 < l.length) (h8 : l.length ≤ 8) (ho : off = if 128 ≤ l[0].toNat then 1 else 0) (k : Nat) (hk0 : k ≠ 0) (hk : k < l.length) :
    wrap64 (wrap64 (sgS off l k * 256) + (l[k].toNat : Int)) = sgS off l (k + 1) := by
  obtain ⟨j, rfl⟩ : ∃ j, k = j + 1 := ⟨k - 1, by omega⟩
  have h1 := sgS_bd l off h0 ho j (by omega)
  have h2 := sgS_step l (j + 1) off hk0 hk
  have hp : (256 : Int) ^ j ≤ 256 ^ 6 := pow256_mono (by omega)
  have hc : (256 : Int) ^ 6 = 281474976710656 := rfl
  have hb := l[j + 1].toNat_lt
  rw [h2]
  show wrap64 (wrap64 (sgS off l (j + 1) * 256) + _) = _
  unfold wrap64
  omega
theorem sgS_end (x : Int) (m : Nat) (off : Int) (h1 : 1 ≤ m) (h8 : m ≤ 8) (ho : off = if 128 ≤ (dg x (m - 1)).toNat then 1 else 0) : sgS off (putB x m) m = sgn x m := by
  have hv := dg_val x (m - 1)
  rw [sgS, if_neg (by omega), List.take_of_length_le (by rw [putB_len]; exact Nat.le_refl _), getV_putB]
  unfold sgn
  unfold dig at hv
  have hm : m = 1 ∨ m = 2 ∨ m = 3 ∨ m = 4 ∨ m = 5 ∨ m = 6 ∨ m = 7 ∨ m = 8 := by omega
  rcases hm with rfl | rfl | rfl | rfl | rfl | rfl | rfl | rfl
  all_goals
    simp only [Nat.reduceSub, Int.reducePow] at hv ho ⊢
    split at ho <;> subst ho <;> split <;> omega
set_option maxHeartbeats 800000 in
theorem rsigned_any (x n : Int) (w : World) (hx0 : 0 ≤ x) (hx1 : x < 18446744073709551616) (h1 : 1 ≤ n) (h8 : n ≤ 8) :
    Calls Try.prog 12 #[.int .u64 x, .int .i64 n] w fun e w' => e = .returned (.int .i64 (sgn x n.toNat)) ∧ Below w.heap.size w w' := by
  obtain ⟨m, rfl⟩ := Int.eq_ofNat_of_zero_le (show 0 ≤ n by omega)
  rw [Int.toNat_natCast]
  obtain ⟨l, hl⟩ : ∃ l, l = putB x m := ⟨_, rfl⟩
  have hll : l.length = m := by rw [hl, putB_len]
  have hl0 : ∃ h : 0 < l.length, l[0] = dg x (m - 1) := by
    refine ⟨by omega, ?_⟩
    have := putB_at x m 0 (by omega)
    rw [← hl, List.getElem?_eq_getElem (by omega)] at this
    simpa using this
  obtain ⟨hl0, hl1⟩ := hl0
  have HL := Lib.hid hl
  obtain ⟨off, ho⟩ : ∃ off : Int, off = if 128 ≤ l[0].toNat then 1 else 0 := ⟨_, rfl⟩
  have HO := Lib.hid ho
  have HE := Lib.hid (sgS_end x m off (by omega) (by omega) (by rw [← hl1]; exact ho))
  clear hl1 ho
  have HP := Lib.hid (rput_any x m w hx0 hx1 h1 h8)
  clear hx0 hx1
  go_enter Try.func12, Try.ntmps12
  go_wp2_with fail
  refine HP.out.mono ?_
  rintro e w1 ⟨v, rfl, hown, hb⟩
  rw [Int.toNat_natCast, ← hl] at hown
  clear hl
  obtain ⟨A, c, rfl, hbs⟩ := BS.of_own hown
  obtain ⟨b, o, rfl, hbB, hcell⟩ := hbs.at_ (by omega)
  go_wp2_with fail
  go_loop [6, 7] (fun s i => ∃ k : Nat, k ≤ m ∧ i = .int .i64 k ∧ s = .int .i64 (sgS off l k)) (fun _ i => m - (intOf i).toNat)
  case atStart => exact ⟨0, Nat.zero_le _, rfl, rfl⟩
  case round =>
    obtain ⟨k, hk, rfl, rfl⟩ := hrel
    by_cases hlt : k < m
    · have hck := hcell k (by omega)
      have hkb : (l[k].toNat : Int) < 256 := by have := l[k].toNat_lt; omega
      rcases Nat.eq_zero_or_pos k with rfl | hk0
      · have hz : sgS off l 0 = 0 := rfl
        rw [Nat.add_zero] at hck
        by_cases hn : (128 : Int) ≤ (l[0].toNat : Int)
        · go_wp2_with fail
          have hs := sgS_first l hl0 off
          have hoo := HO.out
          rw [if_pos (by omega)] at hoo
          exact ⟨⟨1, by omega, rfl, by rw [hs, hoo]; rfl⟩, by simp [intOf]; omega⟩
        · go_wp2_with fail
          have hs := sgS_first l hl0 off
          have hoo := HO.out
          rw [if_neg (by omega)] at hoo
          exact ⟨⟨1, by omega, rfl, by rw [hs, hoo]; simp⟩, by simp [intOf]; omega⟩
      · have hk1 : ((k : Int) == 0) = false := by simp; omega
        go_wp2_with fail
        rw [sgS_wrap l off hl0 (by omega) HO.out k (by omega) (by omega)]
        exact ⟨⟨k + 1, by omega, by go_num, rfl⟩, by simp [intOf]; omega⟩
    · obtain rfl : k = m := by omega
      go_wp2_with fail
      go_ret
      exact ⟨ret_int (by have h := HE.out; rw [← HL.out] at h; exact h), hb⟩
end Go.Proofs.Ytkjgaibkajafaaa
