/- The walk of RetrySafe. No condition. -/
import Derived.Test.YtnmiamnmjcjjiaaW
namespace Go.Proofs.Ytnmiamnmjcjjiaa
open Go.RowKit
theorem dec_no (c r n da : Int) (wr : ByteArray) (g m : Int) (h1 : c ≠ 4096) (h2 : c ≠ 4098) (h3 : c ≠ 4608) (h4 : c ≠ 9472) : dec c r n da wr g m false = 1 := by
  simp [dec, *]
theorem dec_none (c r n da : Int) (wr : ByteArray) (g : Int) : dec c r n da wr g 0 true = if c = 9472 then 4 else 1 := by
  unfold dec; split
  · rfl
  · rw [if_pos (by omega)]
theorem los_false (g m : Int) : los g m false = 1 := by simp [los]
theorem los_none (g : Int) (i : Bool) : los g 0 i = 1 := by unfold los; rw [if_neg (by omega)]
set_option maxHeartbeats 1600000 in
theorem safe_any (c l r n fl da : Int) (wr sp na : ByteArray) (tx ar bi : Value) (g m : Int) (w : World) :
    Calls Try.prog 4 #[.agg #[.int .u32 c, tx, .int .u16 l, .int .i32 r, .int .i32 n, .int .i32 fl, .int .u8 da, .string wr, .string sp, .string na, ar, bi], .int .i64 g, .int .i64 m] w fun e w' => e = .returned (.bool true) ∧ Below w.heap.size w w' := by
  obtain ⟨x, hx, hx1⟩ : ∃ x, dec c r n da wr g m false = x ∧ ((c ≠ 4096 ∧ c ≠ 4098 ∧ c ≠ 4608 ∧ c ≠ 9472) → x = 1) := ⟨_, rfl, fun ⟨a, b, c, d⟩ => dec_no _ _ _ _ _ _ _ a b c d⟩
  have HX := Lib.hid hx1
  have HE := Lib.hid hx
  clear hx hx1
  go_enter Try.func4, Try.ntmps4
  go_wp2_with fail
  refine (awake_any _).mono ?_
  rintro e w1 ⟨rfl, hb⟩
  obtain ⟨hc, hf⟩ := bcell hb
  have hz : w.heap.size < w1.heap.size := by have := hb.size; simp at this; omega
  have hb' : Below w.heap.size w w1 := hb.mono (by simp) |> (fun h => (((Below.refl _ _).alloc (Nat.le_refl _) _).trans h))
  go_wp2_with fail
  refine (decide_any _ _ _ _ _ _ _ _ _ _ _ _ _ _ _ _).mono ?_
  rintro e w2 ⟨rfl, rfl⟩
  rw [HE.out]
  go_wp2_with fail
  refine (decide_any _ _ _ _ _ _ _ _ _ _ _ _ _ _ _ _).mono ?_
  rintro e w2 ⟨rfl, rfl⟩
  rw [dec_none]
  go_wp2_with fail
  all_goals first | exact absurd (HX.out ⟨‹_›, ‹_›, ‹_›, ‹_›⟩) ‹_› | (refine (lost_any _ _ _ _).mono ?_; rintro e w' ⟨rfl, rfl⟩; rw [los_false]; go_wp2_with fail)
  all_goals (refine (lost_any _ _ _ _).mono ?_; rintro e w' ⟨rfl, rfl⟩; rw [los_none]; go_wp2_with fail)
  all_goals go_ret
  all_goals refine ⟨ret_bool ?_, by repeat (first | exact hb' | refine below_new ?_ _)⟩
  all_goals (simp_all; try omega)
end Go.Proofs.Ytnmiamnmjcjjiaa
