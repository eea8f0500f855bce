/- The walk of RetryTimes. No condition. -/
import Derived.Test.YtnmiamnmjcjjiaaW
namespace Go.Proofs.Ytnmiamnmjcjjiaa
open Go.RowKit
set_option maxHeartbeats 800000 in
theorem times_any (r n da : Int) (wr : ByteArray) (i : Bool) (w : World) : Calls Try.prog 5 #[.int .i32 r, .int .i32 n, .int .u8 da, .string wr, .bool i] w fun e w' => e = .returned (.bool true) ∧ Below w.heap.size w w' := by
  go_enter Try.func5, Try.ntmps5
  go_wp2_with fail
  refine (awake_any _).mono ?_
  rintro e w1 ⟨rfl, hb⟩
  go_wp2_with fail
  refine (decide_any _ _ _ _ _ _ _ _ _ _ _ _ _ _ _ _).mono ?_
  rintro e w2 ⟨rfl, rfl⟩
  go_wp2_with fail
  refine (decide_any _ _ _ _ _ _ _ _ _ _ _ _ _ _ _ _).mono ?_
  rintro e w2 ⟨rfl, rfl⟩
  go_wp2_with fail
  all_goals go_ret
  all_goals refine ⟨ret_bool ?_, by repeat (first | exact hb | refine below_new ?_ _)⟩
  all_goals (simp_all [dec, sBatch, sSimple]; try omega)
end Go.Proofs.Ytnmiamnmjcjjiaa
