/- Plain facts on numbers and their bytes. No condition. -/
import Derived.Test.YtiehhoonfneccaaM
namespace Go.Proofs.Ytiehhoonfneccaa
open Go.RowKit
/-- The digit of x at place i, to the base of 256. -/
def dig (x : Int) (i : Nat) : Int := x / 256 ^ i % 256
theorem dig_lo (x : Int) (i : Nat) : 0 ≤ dig x i := by unfold dig; omega
theorem dig_hi (x : Int) (i : Nat) : dig x i < 256 := by unfold dig; omega
def dg (x : Int) (i : Nat) : UInt8 := UInt8.ofNat (dig x i).toNat
theorem dg_val (x : Int) (i : Nat) : ((dg x i).toNat : Int) = dig x i := by
  have := dig_lo x i; have := dig_hi x i
  simp only [dg, UInt8.toNat_ofNat']
  omega
/-- The bytes of x in n places, the highest first. -/
def putB (x : Int) (n : Nat) : List UInt8 := (List.range n).map fun j => dg x (n - 1 - j)
theorem putB_len (x : Int) (n : Nat) : (putB x n).length = n := by simp [putB]
theorem putB_at (x : Int) (n j : Nat) (h : j < n) : (putB x n)[j]? = some (dg x (n - 1 - j)) := by simp [putB, h]
theorem dig_pow (x : Int) (i : Nat) : x / 2 ^ (8 * i) % 256 = dig x i := by
  rw [Int.pow_mul]; rfl
/-- The number of bytes, the highest first. -/
def getV (l : List UInt8) : Int := l.foldl (fun a b => a * 256 + (b.toNat : Int)) 0
theorem getV_nil : getV [] = 0 := rfl
theorem getV_snoc (l : List UInt8) (b : UInt8) : getV (l ++ [b]) = getV l * 256 + (b.toNat : Int) := by simp [getV, List.foldl_append]
theorem getV_gen : ∀ (l : List UInt8) (a : Int), 0 ≤ a → 0 ≤ l.foldl (fun a b => a * 256 + (b.toNat : Int)) a ∧ l.foldl (fun a b => a * 256 + (b.toNat : Int)) a < (a + 1) * 256 ^ l.length
  | [], a, h => by simp; omega
  | b :: l, a, h => by
    have hb : (b.toNat : Int) < 256 := by have := b.toNat_lt; omega
    have ih := getV_gen l (a * 256 + (b.toNat : Int)) (by omega)
    rw [List.foldl_cons, List.length_cons, Int.pow_succ]
    refine ⟨ih.1, Int.lt_of_lt_of_le ih.2 ?_⟩
    have hp : (0 : Int) ≤ 256 ^ l.length := Int.pow_nonneg (by omega)
    have := Int.mul_le_mul_of_nonneg_right (show a * 256 + (b.toNat : Int) + 1 ≤ (a + 1) * 256 by omega) hp
    rw [Int.mul_comm (256 ^ l.length) 256, ← Int.mul_assoc]
    exact this
theorem getV_bounds (l : List UInt8) : 0 ≤ getV l ∧ getV l < 256 ^ l.length := by
  have := getV_gen l 0 (by omega)
  simpa [getV] using this
theorem pow256_mono {a b : Nat} (h : a ≤ b) : (256 : Int) ^ a ≤ 256 ^ b := by
  induction h with
  | refl => exact Int.le_refl _
  | step _ ih =>
    have hp : (0 : Int) ≤ 256 ^ a := Int.pow_nonneg (by omega)
    rw [Int.pow_succ]; omega
theorem getV_lt (l : List UInt8) (h : l.length ≤ 8) : getV l < 18446744073709551616 := by
  have h1 := (getV_bounds l).2
  have h2 : (256 : Int) ^ l.length ≤ 256 ^ 8 := pow256_mono h
  have h3 : (256 : Int) ^ 8 = 18446744073709551616 := rfl
  omega
theorem getV_lt7 (l : List UInt8) (h : l.length ≤ 7) : getV l < 72057594037927936 := by
  have h1 := (getV_bounds l).2
  have h2 : (256 : Int) ^ l.length ≤ 256 ^ 7 := pow256_mono h
  have h3 : (256 : Int) ^ 7 = 72057594037927936 := rfl
  omega
theorem or_byte (v : Int) (b : UInt8) (h0 : 0 ≤ v) (h : v < 72057594037927936) : bits .or .u64 (IntKind.u64.wrap (v * 256)) (IntKind.u64.wrap (b.toNat : Int)) = v * 256 + (b.toNat : Int) := by
  have hb : b.toNat < 256 := b.toNat_lt
  obtain ⟨n, rfl⟩ := Int.eq_ofNat_of_zero_le h0
  have e1 : IntKind.u64.wrap ((n : Int) * 256) = ((n * 256 : Nat) : Int) := by rw [IntKind.wrap_u64]; omega
  have e2 : IntKind.u64.wrap (b.toNat : Int) = (b.toNat : Int) := by rw [IntKind.wrap_u64]; omega
  rw [e1, e2, u64_or_nat _ _ (by omega) (by omega), nat_join 8 (n * 256) b.toNat (by omega) (by omega)]
  omega
theorem take_snoc (l : List UInt8) (k : Nat) (h : k < l.length) : l.take (k + 1) = l.take k ++ [l[k]] := by
  rw [List.take_succ_eq_append_getElem h]
theorem getV_step (l : List UInt8) (k : Nat) (h : k < l.length) (h8 : k < 8) :
    bits .or .u64 (IntKind.u64.wrap (getV (l.take k) * 256)) (IntKind.u64.wrap (l[k].toNat : Int)) = getV (l.take (k + 1)) := by
  rw [take_snoc l k h, getV_snoc]
  exact or_byte _ _ (getV_bounds _).1 (getV_lt7 _ (by rw [List.length_take]; omega))
end Go.Proofs.Ytiehhoonfneccaa
