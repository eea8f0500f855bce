/- The reference's Put, Get, Signed and octets.Signed: what they compute. No condition but that the numbers fit their kinds. -/
import Derived.Test.YtkjgaibkajafaaaOD
namespace Go.Proofs.Ytkjgaibkajafaaa
open Go.RowKit
theorem rput_no (x n : Int) (w : World) (h : ¬ (1 ≤ n ∧ n ≤ 8)) : Calls Try.prog 10 #[.int .u64 x, .int .i64 n] w fun e w' => e = .returned (.slice none 0 0) ∧ w = w' := by
  by_cases h1 : n < 1
  · go_enter Try.func10, Try.ntmps10
    go_wp2_with fail
    go_ret
    exact ⟨rfl, rfl⟩
  · have h2 : 8 < n := by omega
    go_enter Try.func10, Try.ntmps10
    go_wp2_with fail
    go_ret
    exact ⟨rfl, rfl⟩
theorem div_step (x : Int) (j : Nat) : x / 256 ^ j / 256 = x / 256 ^ (j + 1) := by
  rw [Int.pow_succ, Int.ediv_ediv_of_nonneg (Int.pow_nonneg (by omega))]
theorem div_bounds (x : Int) (j : Nat) (h0 : 0 ≤ x) (h1 : x < 18446744073709551616) : 0 ≤ x / 256 ^ j ∧ x / 256 ^ j < 18446744073709551616 := by
  have hp : (0 : Int) < 256 ^ j := Int.pow_pos (by omega)
  exact ⟨Int.ediv_nonneg h0 (by omega), Int.lt_of_le_of_lt (Int.ediv_le_self _ h0) h1⟩
theorem div_wrap (x : Int) (j : Nat) (h : 0 ≤ x / 256 ^ j ∧ x / 256 ^ j < 18446744073709551616) : IntKind.u64.wrap ((x / 256 ^ j).tdiv 256) = x / 256 ^ (j + 1) := by
  rw [Int.tdiv_eq_ediv_of_nonneg h.1, ← div_step, IntKind.wrap_u64]
  omega
theorem putB_take (x : Int) (m k : Nat) (h : k < m) : (putB x m).take (k + 1) = (putB x m).take k ++ [dg x (m - 1 - k)] := by
  rw [List.take_add_one, putB_at x m k h]; rfl
set_option maxHeartbeats 400000 in
theorem rput_any (x n : Int) (w : World) (hx0 : 0 ≤ x) (hx1 : x < 18446744073709551616) (h1 : 1 ≤ n) (h8 : n ≤ 8) :
    Calls Try.prog 10 #[.int .u64 x, .int .i64 n] w fun e w' => ∃ v, e = .returned v ∧ w'.ownsRow w.heap.size 5 1 v n.toNat (bv (putB x n.toNat)) ∧ Below w.heap.size w w' := by
  obtain ⟨m, rfl⟩ := Int.eq_ofNat_of_zero_le (show 0 ≤ n by omega)
  rw [Int.toNat_natCast]
  obtain ⟨i0, hi, hz0, hz1, hz2⟩ := info_parts info_byte
  have HD := Lib.hid (fun j => div_bounds x j hx0 hx1)
  clear hx0 hx1
  go_enter Try.func10, Try.ntmps10
  go_wp2_with fail
  go_loopw [5, 6] (fun v i wr => ∃ k : Nat, k ≤ m ∧ i = .int .i64 ((m : Int) - 1 - k) ∧ wr.ownsRow w.heap.size 5 1 v k (bv ((putB x m).take k)) ∧ Below w.heap.size w wr) (fun _ i _ => (intOf i + 1).toNat)
  case atStart => exact ⟨0, Nat.zero_le _, by simp, World.ownsRow_nil _ _ _ _, Below.refl _ _⟩
  case round =>
    obtain ⟨k, hk, rfl, hown, hb⟩ := hrel
    obtain ⟨wo, rfl⟩ : ∃ wo : World, wo = wr := ⟨_, rfl⟩
    by_cases hlt : k < m
    · go_wp2_with fail
      go_loop [7, 8] (fun y i => ∃ j : Nat, (j : Int) ≤ (m : Int) - 1 - k ∧ i = .int .i64 j ∧ y = .int .u64 (x / 256 ^ j)) (fun _ i => m - (intOf i).toNat)
      case atStart => exact ⟨0, by omega, rfl, by simp⟩
      case round =>
        obtain ⟨j, hj, rfl, rfl⟩ := hrel
        have hd := HD.out j
        have hd0 := hd.1
        by_cases hjl : (j : Int) < (m : Int) - 1 - k
        · have HE := Lib.hid hd
          clear hd
          go_wp2_with fail
          rw [div_wrap x j HE.out]
          exact ⟨⟨j + 1, by omega, by go_num, rfl⟩, by simp [intOf]; omega⟩
        · obtain rfl : j = m - 1 - k := by omega
          have HE := Lib.hid hd
          clear hd
          go_wp2_with (at_builtin; refine wpList_append_bs _ rfl _ _ 23 rfl w.heap.size 5 i0 (.int .u8 0) Try.underlying23 hi hz0 hz1 hz2 rfl _ k _ rfl (hown.alloc _) rfl (BS.oneI wo 5 (dg x (m - 1 - k)) (dg_val x (m - 1 - k))) ?_ ?_ ?_)
          · omega
          · have := hb.size; simp; omega
          · intro v' w' hown' hg hat
            have hbw : Below w.heap.size w w' := (hb.alloc hb.size _).grown hg (by have := hb.size; simp; omega) (fun q hq => (hown.lt q hq).1)
            rw [← bv_append, ← putB_take x m k hlt] at hown'
            go_wp2_with fail
            exact ⟨⟨k + 1, by omega, by go_num, hown', hbw⟩, by simp [intOf]; omega⟩
    · obtain rfl : k = m := by omega
      go_wp2_with fail
      go_ret
      rw [List.take_of_length_le (by rw [putB_len]; exact Nat.le_refl _)] at hown
      exact ⟨_, rfl, hown, hb⟩
theorem rget_arg (A : Option Addr) (m c : Nat) (t n : Int) (w : World) (h : ¬ (1 ≤ n ∧ n ≤ 8)) : Calls Try.prog 14 #[.slice A m c, .int .i64 t, .int .i64 n] w fun e w' => e = .returned (.tuple #[.int .u64 0, .int .i64 0, .int .i64 1]) ∧ w = w' := by
  by_cases h1 : n < 1
  · go_enter Try.func14, Try.ntmps14
    go_wp2_with fail
    go_ret3
    exact ⟨rfl, rfl⟩
  · have h2 : 8 < n := by omega
    go_enter Try.func14, Try.ntmps14
    go_wp2_with fail
    go_ret3
    exact ⟨rfl, rfl⟩
theorem rget_short (A : Option Addr) (m c : Nat) (t n : Int) (w : World) (hm : (m : Int) ≤ 9223372036854775807) (h1 : 1 ≤ n) (h8 : n ≤ 8) (t0 : 0 ≤ t) (ht : t ≤ 9223372036854775807) (h : (m : Int) - t < n) : Calls Try.prog 14 #[.slice A m c, .int .i64 t, .int .i64 n] w fun e w' => e = .returned (.tuple #[.int .u64 0, .int .i64 0, .int .i64 10]) ∧ w = w' := by
  go_enter Try.func14, Try.ntmps14
  go_wp2_with fail
  go_ret3
  exact ⟨rfl, rfl⟩
theorem rget_step (l : List UInt8) (t k : Nat) (h : t + k < l.length) (h8 : k < 8) :
    IntKind.u64.wrap (IntKind.u64.wrap (getV ((l.drop t).take k) * 256) + IntKind.u64.wrap (l[t + k].toNat : Int)) = getV ((l.drop t).take (k + 1)) := by
  have hk : k < (l.drop t).length := by rw [List.length_drop]; omega
  have e : (l.drop t)[k] = l[t + k] := by simp
  rw [take_snoc (l.drop t) k hk, getV_snoc, e]
  have h0 := (getV_bounds ((l.drop t).take k)).1
  have h1 := getV_lt7 ((l.drop t).take k) (by rw [List.length_take]; omega)
  have hb : (l[t + k].toNat : Int) < 256 := by have := l[t + k].toNat_lt; omega
  simp only [IntKind.wrap_u64]
  omega
set_option maxHeartbeats 400000 in
theorem rget_any {B : Nat} {A : Option Addr} {m c : Nat} {l : List UInt8} (t n : Int) (w : World) (hl : BS w B A m c l) (h1 : 1 ≤ n) (h8 : n ≤ 8) (t0 : 0 ≤ t) (h : t + n ≤ m) :
    Calls Try.prog 14 #[.slice A m c, .int .i64 t, .int .i64 n] w fun e w' => e = .returned (.tuple #[.int .u64 (getV ((l.drop t.toNat).take n.toNat)), .int .i64 (t + n), .int .i64 0]) ∧ w = w' := by
  obtain ⟨z, rfl⟩ := Int.eq_ofNat_of_zero_le (show 0 ≤ n by omega)
  obtain ⟨y, rfl⟩ := Int.eq_ofNat_of_zero_le t0
  rw [Int.toNat_natCast, Int.toNat_natCast]
  obtain ⟨b, o, rfl, hbB, hcell⟩ := hl.at_ (by omega)
  have hcap := hl.cap
  have hlen := hl.len
  have hmx := hl.max
  unfold maxLen at hmx
  go_enter Try.func14, Try.ntmps14
  go_wp2_with fail
  go_loop [9, 10] (fun x i => ∃ k : Nat, k ≤ z ∧ i = .int .i64 k ∧ x = .int .u64 (getV ((l.drop y).take k))) (fun _ i => z - (intOf i).toNat)
  case atStart => exact ⟨0, Nat.zero_le _, rfl, rfl⟩
  case round =>
    obtain ⟨k, hk, rfl, rfl⟩ := hrel
    by_cases hlt : k < z
    · have hkl : y + k < l.length := by omega
      have hck := hcell (y + k) hkl
      go_wp2_with fail
      rw [rget_step l y k hkl (by omega)]
      exact ⟨⟨k + 1, by omega, by go_num, rfl⟩, by simp [intOf]; omega⟩
    · obtain rfl : k = z := by omega
      go_wp2_with fail
      go_ret3
      exact ⟨rfl, rfl⟩
end Go.Proofs.Ytkjgaibkajafaaa
