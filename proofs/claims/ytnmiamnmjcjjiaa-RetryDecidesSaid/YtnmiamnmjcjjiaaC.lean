/- The contracts of the functions that the laws of chapter 17 (retry) go through: Decide, Lost, either, and the references' Decide and Lost: all inputs. No condition. -/
import Derived.Test.YtnmiamnmjcjjiaaB
import Derived.WalkKit
import Derived.WalkSpells
import Derived.WalkLawsBesides
import Derived.Lib.Hide
namespace Go.Proofs.Ytnmiamnmjcjjiaa
open Go.RowKit

def ei (b : Bool) (x : Int) : Int := if b then x else 1
theorem either_any (b : Bool) (x : Int) (w : World) : Calls Try.prog 11 #[.bool b, .int .i64 x] w fun e w' => e = .returned (.int .i64 (ei b x)) ∧ w = w' := by
  cases b
  · go_enter Try.func11, Try.ntmps11
    go_wp2
    go_ret
    exact ⟨rfl, rfl⟩
  · go_enter Try.func11, Try.ntmps11
    go_wp2
    go_ret
    exact ⟨rfl, rfl⟩

def sBatch : List UInt8 := [66, 65, 84, 67, 72, 95, 76, 79, 71]
def sSimple : List UInt8 := [83, 73, 77, 80, 76, 69]
def dec (c r n da : Int) (wr : ByteArray) (g m : Int) (i : Bool) : Int :=
  if c = 9472 then 4 else if ¬(0 ≤ g ∧ g < m) then 1 else if c = 4096 ∨ c = 4098 then 3
  else if c = 4608 then (if n ≤ r ∧ da = 0 then 2 else 1)
  else if c = 4352 then (if i ∧ (wr.toList = sBatch ∨ wr.toList = sSimple) then 2 else 1)
  else if c = 4097 ∨ c = 4099 ∨ c = 0 then (if i then 3 else 1) else 1
def los (g m : Int) (i : Bool) : Int := if i ∧ 0 ≤ g ∧ g < m then 3 else 1

set_option maxHeartbeats 400000 in
theorem decide_any (c l r n fl da : Int) (wr sp na : ByteArray) (tx ar bi : Value) (g m : Int) (i : Bool) (w : World) :
    Calls Try.prog 7 #[.agg #[.int .u32 c, tx, .int .u16 l, .int .i32 r, .int .i32 n, .int .i32 fl, .int .u8 da, .string wr, .string sp, .string na, ar, bi], .int .i64 g, .int .i64 m, .bool i] w fun e w' => e = .returned (.int .i64 (dec c r n da wr g m i)) ∧
      w.alloc (.cells #[.int .u32 c, tx, .int .u16 l, .int .i32 r, .int .i32 n, .int .i32 fl, .int .u8 da, .string wr, .string sp, .string na, ar, bi] 27) = w' := by
  go_enter Try.func7, Try.ntmps7
  go_wp2_with fail
  all_goals first | (refine (either_any _ _ _).mono ?_; rintro e w' ⟨rfl, rfl⟩; go_wp2) | skip
  all_goals go_ret
  all_goals refine ⟨ret_int ?_, rfl⟩
  all_goals (simp_all [dec, ei, sBatch, sSimple]; try omega)
set_option maxHeartbeats 400000 in
theorem rdecide_any (c r n da : Int) (wr : ByteArray) (g m : Int) (i : Bool) (w : World) :
    Calls Try.prog 8 #[.agg #[.int .u32 c, .int .i32 r, .int .i32 n, .int .u8 da, .string wr], .int .i64 g, .int .i64 m, .bool i] w fun e w' => e = .returned (.int .i64 (dec c r n da wr g m i)) ∧
      w.alloc (.cells #[.int .u32 c, .int .i32 r, .int .i32 n, .int .u8 da, .string wr] 31) = w' := by
  go_enter Try.func8, Try.ntmps8
  go_wp2_with fail
  all_goals go_ret
  all_goals refine ⟨ret_int ?_, by simp_all⟩
  all_goals (simp_all [dec, sBatch, sSimple]; try omega)
theorem lost_any (g m : Int) (i : Bool) (w : World) : Calls Try.prog 9 #[.int .i64 g, .int .i64 m, .bool i] w fun e w' => e = .returned (.int .i64 (los g m i)) ∧ w = w' := by
  go_enter Try.func9, Try.ntmps9
  go_wp2_with fail
  all_goals (refine (either_any _ _ _).mono ?_; rintro e w' ⟨rfl, rfl⟩; go_wp2)
  all_goals go_ret
  all_goals refine ⟨ret_int ?_, rfl⟩
  all_goals (simp_all [los, ei]; try omega)
theorem rlost_any (g m : Int) (i : Bool) (w : World) : Calls Try.prog 10 #[.int .i64 g, .int .i64 m, .bool i] w fun e w' => e = .returned (.int .i64 (los g m i)) ∧ w = w' := by
  go_enter Try.func10, Try.ntmps10
  go_wp2_with fail
  all_goals go_ret
  all_goals refine ⟨ret_int ?_, rfl⟩
  all_goals (simp_all [los]; try omega)
end Go.Proofs.Ytnmiamnmjcjjiaa
