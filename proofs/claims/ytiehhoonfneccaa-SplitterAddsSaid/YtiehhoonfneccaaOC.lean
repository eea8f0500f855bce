/- octets.Get: what it computes, all inputs. No condition. -/
import Derived.Test.YtiehhoonfneccaaOB
import Derived.Deep.QuietTactic
import Derived.BigQuiet
namespace Go.Proofs.Ytiehhoonfneccaa
open Go.RowKit
theorem get_arg (A : Option Addr) (m c : Nat) (n : Int) (w : World) (h : ¬ (1 ≤ n ∧ n ≤ 8)) : Calls Try.prog 36 #[.slice A m c, .int .i64 n] w fun e w' => e = .returned (.tuple #[.int .u64 0, .slice none 0 0, .int .i64 1]) ∧ w = w' := by
  go_enter Try.func36, Try.ntmps36
  go_wp2_with fail
  refine (size_no _ _ h).mono ?_
  rintro e w' ⟨rfl, rfl⟩
  go_wp2_with fail
  go_ret3
  exact ⟨rfl, rfl⟩
theorem get_short (A : Option Addr) (m c : Nat) (n : Int) (w : World) (h1 : 1 ≤ n) (h8 : n ≤ 8) (h : (m : Int) < n) : Calls Try.prog 36 #[.slice A m c, .int .i64 n] w fun e w' => e = .returned (.tuple #[.int .u64 0, .slice none 0 0, .int .i64 10]) ∧ w = w' := by
  go_enter Try.func36, Try.ntmps36
  go_wp2_with fail
  refine (size_yes _ _ h1 h8).mono ?_
  rintro e w' ⟨rfl, rfl⟩
  go_wp2_with fail
  go_ret3
  exact ⟨rfl, rfl⟩
set_option maxHeartbeats 400000 in
theorem get_any {B : Nat} {A : Option Addr} {m c : Nat} {l : List UInt8} (n : Int) (w : World) (hl : BS w B A m c l) (h1 : 1 ≤ n) (h8 : n ≤ 8) (h : n ≤ m) :
    Calls Try.prog 36 #[.slice A m c, .int .i64 n] w fun e w' => ∃ A' q, e = .returned (.tuple #[.int .u64 (getV (l.take n.toNat)), .slice A' (m - n.toNat) (c - n.toNat), .int .i64 0]) ∧ BS w B A' (m - n.toNat) (c - n.toNat) (l.drop n.toNat) ∧ w' = w.drewN q := by
  obtain ⟨z, rfl⟩ := Int.eq_ofNat_of_zero_le (show 0 ≤ n by omega)
  rw [Int.toNat_natCast]
  obtain ⟨b, o, rfl, hbB, hcell⟩ := hl.at_ (by omega)
  have hcap := hl.cap
  have hlen := hl.len
  have hmx := hl.max
  unfold maxLen at hmx
  go_enter Try.func36, Try.ntmps36
  go_wp2_with fail
  refine (size_yes _ _ h1 h8).mono ?_
  rintro e w' ⟨rfl, rfl⟩
  go_wp2_with fail
  go_loop [7, 23] (fun x i => ∃ k : Nat, k ≤ z ∧ i = .int .i64 k ∧ x = .int .u64 (getV (l.take k))) (fun _ i => z - (intOf i).toNat)
  case atStart => exact ⟨0, Nat.zero_le _, rfl, rfl⟩
  case round =>
    obtain ⟨k, hk, rfl, rfl⟩ := hrel
    by_cases hlt : k < z
    · have hkl : k < l.length := by omega
      have hck := hcell k hkl
      go_wp2_with fail
      rw [getV_step l k hkl (by omega)]
      exact ⟨⟨k + 1, by omega, by go_num, rfl⟩, by simp [intOf]; omega⟩
    · obtain rfl : k = z := by omega
      have hfr := hl.from_ (k := k) (by omega)
      by_cases hck : c = k
      · obtain rfl : m = k := by omega
        subst hck
        rw [if_pos rfl] at hfr
        have HF := Lib.hid hfr
        clear hfr
        go_wp2_with fail
        go_quiet (fail)
        go_wp2_with fail
        go_ret3
        exact ⟨_, _, by simp; rfl, by simpa using HF.out, rfl⟩
      · rw [if_neg hck] at hfr
        have HF := Lib.hid hfr
        clear hfr
        go_wp2_with fail
        go_quiet (fail)
        go_wp2_with fail
        go_ret3
        exact ⟨_, _, rfl, by simpa [add_none] using HF.out, rfl⟩
end Go.Proofs.Ytiehhoonfneccaa
