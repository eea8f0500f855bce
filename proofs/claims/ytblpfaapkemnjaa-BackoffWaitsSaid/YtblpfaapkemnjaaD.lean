/- math/bits Mul64 (by a number up to 100), Div64 (by 100), Add64; Part: what they compute. -/
import Derived.Test.YtblpfaapkemnjaaC
import Derived.Laws.Externs
import Derived.Laws.MathBits
import Derived.Deep.QuietTactic
import Derived.BigQuiet
namespace Go.Proofs.Ytblpfaapkemnjaa
open Go.RowKit
theorem mul_lo (x y : Int) : IntKind.u64.wrap (x * y) = x * y % 18446744073709551616 := by rw [IntKind.wrap_u64]
theorem mul_hi (x y : Int) (x0 : 0 ≤ x) (x1 : x < 18446744073709551616) (y0 : 0 ≤ y) (y1 : y ≤ 100) :
    IntKind.u64.wrap
      (IntKind.u64.wrap (IntKind.u64.wrap (x / 4294967296 * (y / 4294967296)) +
          IntKind.u64.wrap (IntKind.u64.wrap (x / 4294967296 * bits BinOp.and IntKind.u64 y 4294967295) +
            IntKind.u64.wrap (bits BinOp.and IntKind.u64 x 4294967295 * bits BinOp.and IntKind.u64 y 4294967295) / 4294967296) / 4294967296) +
        IntKind.u64.wrap
            (bits BinOp.and IntKind.u64
                (IntKind.u64.wrap (IntKind.u64.wrap (x / 4294967296 * bits BinOp.and IntKind.u64 y 4294967295) +
                    IntKind.u64.wrap (bits BinOp.and IntKind.u64 x 4294967295 * bits BinOp.and IntKind.u64 y 4294967295) / 4294967296))
                4294967295 +
              IntKind.u64.wrap (bits BinOp.and IntKind.u64 x 4294967295 * (y / 4294967296))) / 4294967296) = x * y / 18446744073709551616 := by
  rw [and_low32 x x0 x1, and_low32 y y0 (by omega), show y / 4294967296 = 0 from by omega, show y % 4294967296 = y from by omega, Int.mul_zero, Int.mul_zero]
  have hx : x * y = x / 4294967296 * y * 4294967296 + x % 4294967296 * y := by
    have h := Int.mul_ediv_add_emod x 4294967296
    calc x * y = (4294967296 * (x / 4294967296) + x % 4294967296) * y := by rw [h]
      _ = _ := by rw [Int.add_mul, Int.mul_comm 4294967296, Int.mul_assoc, Int.mul_comm 4294967296 y, ← Int.mul_assoc]
  have a0 : 0 ≤ x / 4294967296 * y := Int.mul_nonneg (by omega) y0
  have a1 : x / 4294967296 * y ≤ 4294967295 * 100 := Int.mul_le_mul (by omega) y1 y0 (by omega)
  have c0 : 0 ≤ x % 4294967296 * y := Int.mul_nonneg (by omega) y0
  have c1 : x % 4294967296 * y ≤ 4294967295 * 100 := Int.mul_le_mul (by omega) y1 y0 (by omega)
  rw [hx]
  generalize x / 4294967296 * y = p at *
  generalize x % 4294967296 * y = q at *
  simp only [IntKind.wrap_u64]
  rw [and_low32 _ (by omega) (by omega)]
  omega
theorem part_wrap (d p : Int) (d0 : 0 ≤ d) (d1 : d < 18446744073709551616) (p0 : 0 ≤ p) (p1 : p ≤ 100) :
    IntKind.u64.wrap (IntKind.u64.wrap (d / 100 * p) + IntKind.u64.wrap ((IntKind.u64.wrap (d % 100 * p)).tdiv 100)) = part d p := by
  rw [← part_ref]
  have a0 : 0 ≤ d / 100 * p := Int.mul_nonneg (by omega) p0
  have a1 : d / 100 * p ≤ d / 100 * 100 := Int.mul_le_mul_of_nonneg_left p1 (by omega)
  have c0 : 0 ≤ d % 100 * p := Int.mul_nonneg (by omega) p0
  have c1 : d % 100 * p ≤ d % 100 * 100 := Int.mul_le_mul_of_nonneg_left p1 (by omega)
  have e : IntKind.u64.wrap (d % 100 * p) = d % 100 * p := by rw [IntKind.wrap_u64]; omega
  rw [e, Int.tdiv_eq_ediv_of_nonneg c0]
  simp only [IntKind.wrap_u64]
  omega
theorem mul64_any (x y : Int) (w : World) (x0 : 0 ≤ x) (x1 : x < 18446744073709551616) (y0 : 0 ≤ y) (y1 : y ≤ 100) :
    Calls Try.prog 12 #[.int .u64 x, .int .u64 y] w fun e w' => e = .returned (.tuple #[.int .u64 (x * y / 18446744073709551616), .int .u64 (x * y % 18446744073709551616)]) ∧ w = w' := by
  go_enter Try.func12, Try.ntmps12
  go_wp2_with fail
  go_ret2
  refine ⟨?_, rfl⟩
  show Ending.returned (Value.tuple #[.int .u64 _, .int .u64 _]) = _
  rw [← mul_hi x y x0 x1 y0 y1, ← mul_lo]
theorem add64_any (x y : Int) (hx : 0 ≤ x) (hy : 0 ≤ y) (w : World) : (callFunc 14 #[.int .u64 x, .int .u64 y, .int .u64 0]).run Try.prog w =
    .ok (.value (.tuple #[.int .u64 ((x + y) % 18446744073709551616), .int .u64 ((x + y) / 18446744073709551616)])) w := by
  rw [run_callFunc_extern Try.func14 (by kernel_rfl) (by kernel_rfl) (by kernel_rfl) (e := add64Entry) (by kernel_rfl), run_add64 x y 0 hx hy (by omega) (by omega)]
  simp only [Result.andThen, Int.add_zero]
theorem rpart_any (d p : Int) (w : World) (d0 : 0 ≤ d) (d1 : d < 18446744073709551616) (p0 : 0 ≤ p) (p1 : p ≤ 100) :
    Calls Try.prog 15 #[.int .u64 d, .int .u64 p] w fun e w' => e = .returned (.int .u64 (part d p)) ∧ w = w' := by
  go_enter Try.func15, Try.ntmps15
  go_wp2_with fail
  go_ret
  exact ⟨ret_u64 (part_wrap d p d0 d1 p0 p1), rfl⟩
end Go.Proofs.Ytblpfaapkemnjaa
