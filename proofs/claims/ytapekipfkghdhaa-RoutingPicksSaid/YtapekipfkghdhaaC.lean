/- murmur.number and murmur.at: what they compute. -/
import Derived.Test.YtapekipfkghdhaaA
import Derived.Test.YtapekipfkghdhaaOA
namespace Go.Proofs.Ytapekipfkghdhaa
open Go.RowKit
/-- The number of bytes, the lowest first. -/
def le (l : List UInt8) : Int := l.foldr (fun b a => a * 256 + (b.toNat : Int)) 0
theorem le_cons (b : UInt8) (l : List UInt8) : le (b :: l) = le l * 256 + (b.toNat : Int) := rfl
theorem le_snoc (l : List UInt8) (b : UInt8) : le (l ++ [b]) = le l + (b.toNat : Int) * 256 ^ l.length := by
  induction l with
  | nil => simp [le]
  | cons c l ih =>
    rw [List.cons_append, le_cons, ih, le_cons, List.length_cons, Int.pow_succ, Int.add_mul, Int.mul_assoc]
    omega
theorem le_bounds (l : List UInt8) : 0 ≤ le l ∧ le l < 256 ^ l.length := by
  induction l with
  | nil => simp [le]
  | cons c l ih =>
    have hc := c.toNat_lt
    rw [le_cons, List.length_cons, Int.pow_succ]
    omega
theorem le_step (l : List UInt8) (k : Nat) (h : k < l.length) (h8 : k < 8) :
    bits .or .u64 (le (l.take k)) (IntKind.u64.wrap (IntKind.u64.wrap (l[k].toNat : Int) * 2 ^ (8 * k))) = le (l.take (k + 1)) := by
  have hb := l[k].toNat_lt
  have hl : (l.take k).length = k := by rw [List.length_take]; omega
  rw [take_snoc l k h, le_snoc, hl]
  have h0 := le_bounds (l.take k)
  rw [hl] at h0
  have e0 : (256 : Int) ^ k = 2 ^ (8 * k) := by rw [Int.pow_mul]; rfl
  have hp : (256 : Int) ^ k ≤ 256 ^ 7 := pow256_mono (by omega)
  have hc : (256 : Int) ^ 7 = 72057594037927936 := rfl
  have hpos : (0 : Int) < 256 ^ k := Int.pow_pos (by omega)
  have hm : (l[k].toNat : Int) * 256 ^ k ≤ 255 * 256 ^ k := Int.mul_le_mul_of_nonneg_right (by omega) (by omega)
  have hm0 : (0 : Int) ≤ (l[k].toNat : Int) * 256 ^ k := Int.mul_nonneg (by omega) (by omega)
  have e1 : IntKind.u64.wrap (l[k].toNat : Int) = (l[k].toNat : Int) := by rw [IntKind.wrap_u64]; omega
  rw [e1, ← e0]
  have e2 : IntKind.u64.wrap ((l[k].toNat : Int) * 256 ^ k) = (l[k].toNat : Int) * 256 ^ k := by rw [IntKind.wrap_u64]; omega
  rw [e2]
  obtain ⟨a, ha⟩ := Int.eq_ofNat_of_zero_le h0.1
  have e3 : (l[k].toNat : Int) * 256 ^ k = ((l[k].toNat * 2 ^ (8 * k) : Nat) : Int) := by rw [e0]; push_cast; rfl
  rw [ha, e3]
  rw [e3] at hm hm0
  have ha2 : a < 2 ^ (8 * k) := by
    have := h0.2
    rw [ha, e0] at this
    exact_mod_cast this
  rw [u64_or_nat _ _ (by omega) (by omega), Nat.or_comm, nat_join (8 * k) _ _ (Nat.mul_mod_left _ _) ha2]
  push_cast
  omega
set_option maxHeartbeats 400000 in
theorem number_any {B : Nat} {A : Option Addr} {n c : Nat} {l : List UInt8} (w : World) (hl : BS w B A n c l) (hn : n ≤ 8) :
    Calls Try.prog 30 #[.slice A n c] w fun e w' => e = .returned (.int .u64 (le l)) ∧ w = w' := by
  have hlen := hl.len
  go_enter Try.func30, Try.ntmps30
  go_wp2_with fail
  go_loop [3, 8] (fun x i => ∃ k : Nat, k ≤ n ∧ i = .int .i64 k ∧ x = .int .u64 (le (l.take k))) (fun _ i => n - (intOf i).toNat)
  case atStart => exact ⟨0, Nat.zero_le _, rfl, rfl⟩
  case round =>
    obtain ⟨k, hk, rfl, rfl⟩ := hrel
    by_cases hlt : k < n
    · obtain ⟨b, o, rfl, hbB, hkl, hck⟩ := hl.byte hlt
      go_wp2_with fail
      rw [le_step l k hkl (by omega)]
      exact ⟨⟨k + 1, by omega, by go_num, rfl⟩, by simp [intOf]; omega⟩
    · obtain rfl : k = n := by omega
      go_wp2_with fail
      go_ret
      exact ⟨ret_u64 (by rw [List.take_of_length_le (by omega)]), rfl⟩
/-- A byte with its sign, j bytes up. -/
def sx (b : UInt8) (j : Nat) : Int := IntKind.u64.wrap (IntKind.u64.wrap (if b.toNat < 128 then (b.toNat : Int) else (b.toNat : Int) - 256) * 256 ^ j)
theorem i8_form : ∀ n : Nat, n < 256 → IntKind.i8.wrap (n : Int) = if n < 128 then (n : Int) else (n : Int) - 256 := by decide +kernel
theorem at_form (b : UInt8) (m : Nat) : IntKind.u64.wrap (IntKind.u64.wrap (wrap64 (IntKind.i8.wrap (b.toNat : Int))) * 2 ^ (m * 8)) = sx b m := by
  have hb := b.toNat_lt
  have e : wrap64 (IntKind.i8.wrap (b.toNat : Int)) = if b.toNat < 128 then (b.toNat : Int) else (b.toNat : Int) - 256 := by
    have h8 := i8_form b.toNat hb
    rw [h8]
    unfold wrap64
    split <;> omega
  rw [e, Nat.mul_comm, Int.pow_mul]
  rfl
theorem at_any {B : Nat} {A : Option Addr} {n c : Nat} {l : List UInt8} (w : World) (hl : BS w B A n c l) (i : Nat) (hi : i < n) (h16 : i < 16) (hli : i < l.length) :
    Calls Try.prog 48 #[.slice A n c, .int .i64 (i : Int)] w fun e w' => e = .returned (.int .u64 (sx l[i] (i % 8))) ∧ w = w' := by
  obtain ⟨b, o, rfl, hbB, hkl, hck⟩ := hl.byte hi
  go_enter Try.func48, Try.ntmps48
  go_wp2_with fail
  go_ret
  exact ⟨ret_u64 (at_form _ _), rfl⟩
end Go.Proofs.Ytapekipfkghdhaa
