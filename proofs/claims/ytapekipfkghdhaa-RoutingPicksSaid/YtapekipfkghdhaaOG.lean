/- The reference's Get: what it computes. No condition. -/
import Derived.Test.YtapekipfkghdhaaOD
namespace Go.Proofs.Ytapekipfkghdhaa
open Go.RowKit
theorem rget_arg (A : Option Addr) (m c : Nat) (t n : Int) (w : World) (h : ¬ (1 ≤ n ∧ n ≤ 8)) : Calls Try.prog 47 #[.slice A m c, .int .i64 t, .int .i64 n] w fun e w' => e = .returned (.tuple #[.int .u64 0, .int .i64 0, .int .i64 1]) ∧ w = w' := by
  by_cases h1 : n < 1
  · go_enter Try.func47, Try.ntmps47
    go_wp2_with fail
    go_ret3
    exact ⟨rfl, rfl⟩
  · have h2 : 8 < n := by omega
    go_enter Try.func47, Try.ntmps47
    go_wp2_with fail
    go_ret3
    exact ⟨rfl, rfl⟩
theorem rget_short (A : Option Addr) (m c : Nat) (t n : Int) (w : World) (hm : (m : Int) ≤ 9223372036854775807) (h1 : 1 ≤ n) (h8 : n ≤ 8) (t0 : 0 ≤ t) (ht : t ≤ 9223372036854775807) (h : (m : Int) - t < n) : Calls Try.prog 47 #[.slice A m c, .int .i64 t, .int .i64 n] w fun e w' => e = .returned (.tuple #[.int .u64 0, .int .i64 0, .int .i64 10]) ∧ w = w' := by
  go_enter Try.func47, Try.ntmps47
  go_wp2_with fail
  go_ret3
  exact ⟨rfl, rfl⟩
theorem rget_step (l : List UInt8) (t k : Nat) (h : t + k < l.length) (h8 : k < 8) :
    IntKind.u64.wrap (IntKind.u64.wrap (getV ((l.drop t).take k) * 256) + IntKind.u64.wrap (l[t + k].toNat : Int)) = getV ((l.drop t).take (k + 1)) := by
  have hk : k < (l.drop t).length := by rw [List.length_drop]; omega
  have e : (l.drop t)[k] = l[t + k] := by simp
  rw [take_snoc (l.drop t) k hk, getV_snoc, e]
  have h0 := (getV_bounds ((l.drop t).take k)).1
  have h1 := getV_lt7 ((l.drop t).take k) (by rw [List.length_take]; omega)
  have hb : (l[t + k].toNat : Int) < 256 := by have := l[t + k].toNat_lt; omega
  simp only [IntKind.wrap_u64]
  omega
set_option maxHeartbeats 400000 in
theorem rget_any {B : Nat} {A : Option Addr} {m c : Nat} {l : List UInt8} (t n : Int) (w : World) (hl : BS w B A m c l) (h1 : 1 ≤ n) (h8 : n ≤ 8) (t0 : 0 ≤ t) (h : t + n ≤ m) :
    Calls Try.prog 47 #[.slice A m c, .int .i64 t, .int .i64 n] w fun e w' => e = .returned (.tuple #[.int .u64 (getV ((l.drop t.toNat).take n.toNat)), .int .i64 (t + n), .int .i64 0]) ∧ w = w' := by
  obtain ⟨z, rfl⟩ := Int.eq_ofNat_of_zero_le (show 0 ≤ n by omega)
  obtain ⟨y, rfl⟩ := Int.eq_ofNat_of_zero_le t0
  rw [Int.toNat_natCast, Int.toNat_natCast]
  obtain ⟨b, o, rfl, hbB, hcell⟩ := hl.at_ (by omega)
  have hcap := hl.cap
  have hlen := hl.len
  have hmx := hl.max
  unfold maxLen at hmx
  go_enter Try.func47, Try.ntmps47
  go_wp2_with fail
  go_loop [9, 10] (fun x i => ∃ k : Nat, k ≤ z ∧ i = .int .i64 k ∧ x = .int .u64 (getV ((l.drop y).take k))) (fun _ i => z - (intOf i).toNat)
  case atStart => exact ⟨0, Nat.zero_le _, rfl, rfl⟩
  case round =>
    obtain ⟨k, hk, rfl, rfl⟩ := hrel
    by_cases hlt : k < z
    · have hkl : y + k < l.length := by omega
      have hck := hcell (y + k) hkl
      go_wp2_with fail
      rw [rget_step l y k hkl (by omega)]
      exact ⟨⟨k + 1, by omega, by go_num, rfl⟩, by simp [intOf]; omega⟩
    · obtain rfl : k = z := by omega
      go_wp2_with fail
      go_ret3
      exact ⟨rfl, rfl⟩
end Go.Proofs.Ytapekipfkghdhaa
