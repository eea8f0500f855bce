/- The small functions of murmur and of its reference: the same numbers. No condition. -/
import Derived.Test.YtapekipfkghdhaaM
import Derived.Deep.QuietTactic
import Derived.BigQuiet
namespace Go.Proofs.Ytapekipfkghdhaa
open Go.RowKit
theorem ret_u64 {a b : Int} (h : a = b) : Ending.returned (.int .u64 a) = .returned (.int .u64 b) := by rw [h]
def rl27 (x : Int) : Int := bits .or .u64 (IntKind.u64.wrap (x * 134217728)) (x / 137438953472)
theorem rot27 (x : Int) (w : World) : Calls Try.prog 31 #[.int .u64 x, .int .i64 27] w fun e w' => e = .returned (.int .u64 (rl27 x)) ∧ w = w' := by
  have e : bits .and .u64 27 63 = 27 := by decide
  go_enter Try.func31, Try.ntmps31
  go_wp2_with fail
  go_ret
  exact ⟨rfl, rfl⟩
theorem left27 (x : Int) (w : World) : Calls Try.prog 35 #[.int .u64 x, .int .u64 27] w fun e w' => e = .returned (.int .u64 (rl27 x)) ∧ w = w' := by
  go_enter Try.func35, Try.ntmps35
  go_wp2_with fail
  go_ret
  exact ⟨rfl, rfl⟩
def rl31 (x : Int) : Int := bits .or .u64 (IntKind.u64.wrap (x * 2147483648)) (x / 8589934592)
theorem rot31 (x : Int) (w : World) : Calls Try.prog 31 #[.int .u64 x, .int .i64 31] w fun e w' => e = .returned (.int .u64 (rl31 x)) ∧ w = w' := by
  have e : bits .and .u64 31 63 = 31 := by decide
  go_enter Try.func31, Try.ntmps31
  go_wp2_with fail
  go_ret
  exact ⟨rfl, rfl⟩
theorem left31 (x : Int) (w : World) : Calls Try.prog 35 #[.int .u64 x, .int .u64 31] w fun e w' => e = .returned (.int .u64 (rl31 x)) ∧ w = w' := by
  go_enter Try.func35, Try.ntmps35
  go_wp2_with fail
  go_ret
  exact ⟨rfl, rfl⟩
def rl33 (x : Int) : Int := bits .or .u64 (IntKind.u64.wrap (x * 8589934592)) (x / 2147483648)
theorem rot33 (x : Int) (w : World) : Calls Try.prog 31 #[.int .u64 x, .int .i64 33] w fun e w' => e = .returned (.int .u64 (rl33 x)) ∧ w = w' := by
  have e : bits .and .u64 33 63 = 33 := by decide
  go_enter Try.func31, Try.ntmps31
  go_wp2_with fail
  go_ret
  exact ⟨rfl, rfl⟩
theorem left33 (x : Int) (w : World) : Calls Try.prog 35 #[.int .u64 x, .int .u64 33] w fun e w' => e = .returned (.int .u64 (rl33 x)) ∧ w = w' := by
  go_enter Try.func35, Try.ntmps35
  go_wp2_with fail
  go_ret
  exact ⟨rfl, rfl⟩
def fst (k : Int) : Int := IntKind.u64.wrap (rl31 (IntKind.u64.wrap (k * 9782798678568883157)) * 5545529020109919103)
theorem fst_any (k : Int) (w : World) : Calls Try.prog 29 #[.int .u64 k] w fun e w' => e = .returned (.int .u64 (fst k)) ∧ w = w' := by
  go_enter Try.func29, Try.ntmps29
  go_wp2_with fail
  refine (rot31 _ _).mono ?_
  rintro e w' ⟨rfl, rfl⟩
  go_wp2_with fail
  go_ret
  exact ⟨rfl, rfl⟩
theorem rfst_any (k : Int) (w : World) : Calls Try.prog 36 #[.int .u64 k] w fun e w' => e = .returned (.int .u64 (fst k)) ∧ w = w' := by
  go_enter Try.func36, Try.ntmps36
  go_wp2_with fail
  refine (left31 _ _).mono ?_
  rintro e w' ⟨rfl, rfl⟩
  go_wp2_with fail
  go_ret
  exact ⟨rfl, rfl⟩
def snd (k : Int) : Int := IntKind.u64.wrap (rl33 (IntKind.u64.wrap (k * 5545529020109919103)) * 9782798678568883157)
theorem snd_any (k : Int) (w : World) : Calls Try.prog 32 #[.int .u64 k] w fun e w' => e = .returned (.int .u64 (snd k)) ∧ w = w' := by
  go_enter Try.func32, Try.ntmps32
  go_wp2_with fail
  refine (rot33 _ _).mono ?_
  rintro e w' ⟨rfl, rfl⟩
  go_wp2_with fail
  go_ret
  exact ⟨rfl, rfl⟩
theorem rsnd_any (k : Int) (w : World) : Calls Try.prog 37 #[.int .u64 k] w fun e w' => e = .returned (.int .u64 (snd k)) ∧ w = w' := by
  go_enter Try.func37, Try.ntmps37
  go_wp2_with fail
  refine (left33 _ _).mono ?_
  rintro e w' ⟨rfl, rfl⟩
  go_wp2_with fail
  go_ret
  exact ⟨rfl, rfl⟩
def xs33 (x : Int) : Int := bits BinOp.xor IntKind.u64 x (x / 8589934592)
def mx (x : Int) : Int := xs33 (IntKind.u64.wrap (xs33 (IntKind.u64.wrap (xs33 x * 18397679294719823053)) * 14181476777654086739))
theorem mixed_any (x : Int) (w : World) : Calls Try.prog 34 #[.int .u64 x] w fun e w' => e = .returned (.int .u64 (mx x)) ∧ w = w' := by
  go_enter Try.func34, Try.ntmps34
  go_wp2_with fail
  go_ret
  exact ⟨rfl, rfl⟩
theorem rmixed_any (x : Int) (w : World) : Calls Try.prog 38 #[.int .u64 x] w fun e w' => e = .returned (.int .u64 (mx x)) ∧ w = w' := by
  go_enter Try.func38, Try.ntmps38
  go_wp2_with fail
  go_ret
  exact ⟨rfl, rfl⟩
end Go.Proofs.Ytapekipfkghdhaa
