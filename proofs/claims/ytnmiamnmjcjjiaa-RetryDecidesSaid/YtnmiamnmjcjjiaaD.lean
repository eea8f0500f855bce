/- The walk of RetryDecides. No condition. -/
import Derived.Test.YtnmiamnmjcjjiaaW
import Derived.Deep.RegionHeld3
namespace Go.Proofs.Ytnmiamnmjcjjiaa
open Go.RowKit
def codes (c : Int) : List Value := [.int .u32 0, .int .u32 10, .int .u32 4096, .int .u32 4097, .int .u32 4098, .int .u32 4099, .int .u32 4352, .int .u32 4608, .int .u32 4864, .int .u32 5376, .int .u32 9472, .int .u32 c]
theorem codes_len (c : Int) : (codes c).length = 12 := rfl
theorem codes_at (c : Int) (k : Nat) (h : k < 12) : ∃ x, (codes c)[k]'(by rw [codes_len]; exact h) = .int .u32 x := by
  unfold codes
  match k, h with
  | 0, _ | 1, _ | 2, _ | 3, _ | 4, _ | 5, _ | 6, _ | 7, _ | 8, _ | 9, _ | 10, _ | 11, _ => exact ⟨_, rfl⟩
set_option maxHeartbeats 1600000 in
theorem decides_any (c l r n fl da : Int) (wr sp na : ByteArray) (tx ar bi : Value) (q g m : Int) (i : Bool) (w : World) (hq0 : 0 ≤ q) (hq1 : q ≤ 255) :
    Calls Try.prog 3 #[.agg #[.int .u32 c, tx, .int .u16 l, .int .i32 r, .int .i32 n, .int .i32 fl, .int .u8 da, .string wr, .string sp, .string na, ar, bi], .int .u8 q, .int .i64 g, .int .i64 m, .bool i] w fun e w' => e = .returned (.bool true) ∧ Below w.heap.size w w' := by
  have hk : (q % 12).toNat < 12 := by omega
  obtain ⟨x, hx⟩ := codes_at c (q % 12).toNat hk
  unfold codes at hx
  have h0 : 0 ≤ q % 12 := by omega
  have h1 : q % 12 < 12 := by omega
  go_enter Try.func3, Try.ntmps3
  go_wp2_with fail
  refine (awake_any _).mono ?_
  rintro e w1 ⟨rfl, hb⟩
  obtain ⟨hc, hf⟩ := bcell hb
  have hz : w.heap.size < w1.heap.size := by have := hb.size; simp at this; omega
  have hz1 : w.heap.size < w1.heap.size + 1 := by omega
  have hz2 : w.heap.size < w1.heap.size + 1 + 1 := by omega
  have hz3 : w.heap.size < w1.heap.size + 1 + 1 + 1 := by omega
  have hz4 : w.heap.size < w1.heap.size + 2 := by omega
  have hz5 : w.heap.size < w1.heap.size + 3 := by omega
  have hb' : Below w.heap.size w w1 := hb.mono (by simp) |> (fun h => (((Below.refl _ _).alloc (Nat.le_refl _) _).trans h))
  go_wp2_with fail
  go_region_held3 (fun w' => w.heap.size < w'.heap.size ∧ w1.heap.size + 1 < w'.heap.size ∧ w'.cell? ⟨w.heap.size, 0, none⟩ = some (.int .u32 x) ∧ w'.cell? ⟨w.heap.size, 1, none⟩ = some tx ∧ w'.cell? ⟨w.heap.size, 2, none⟩ = some (.int .u16 l) ∧ w'.cell? ⟨w.heap.size, 3, none⟩ = some (.int .i32 r) ∧ w'.cell? ⟨w.heap.size, 4, none⟩ = some (.int .i32 n) ∧ w'.cell? ⟨w.heap.size, 5, none⟩ = some (.int .i32 fl) ∧ w'.cell? ⟨w.heap.size, 6, none⟩ = some (.int .u8 da) ∧ w'.cell? ⟨w.heap.size, 7, none⟩ = some (.string wr) ∧ w'.cell? ⟨w.heap.size, 8, none⟩ = some (.string sp) ∧ w'.cell? ⟨w.heap.size, 9, none⟩ = some (.string na) ∧ w'.cell? ⟨w.heap.size, 10, none⟩ = some ar ∧ w'.cell? ⟨w.heap.size, 11, none⟩ = some bi ∧ w'.cell? ⟨w1.heap.size + 1, 0, none⟩ = some (.int .u32 x) ∧ w'.cell? ⟨w1.heap.size + 1, 1, none⟩ = some (.int .i32 r) ∧ w'.cell? ⟨w1.heap.size + 1, 2, none⟩ = some (.int .i32 n) ∧ w'.cell? ⟨w1.heap.size + 1, 3, none⟩ = some (.int .u8 da) ∧ w'.cell? ⟨w1.heap.size + 1, 4, none⟩ = some (.string wr)) ((first | (go_simp; done) | ((repeat' apply And.intro) <;> first | (go_simp; done) | (simp; omega))))
    (first | (go_at_call 7; refine (decide_any _ _ _ _ _ _ _ _ _ _ _ _ _ _ _ _).mono ?_; rintro e w' ⟨rfl, rfl⟩) | (go_at_call 8; refine (rdecide_any _ _ _ _ _ _ _ _ _).mono ?_; rintro e w' ⟨rfl, rfl⟩) | (go_at_call 9; refine (lost_any _ _ _ _).mono ?_; rintro e w' ⟨rfl, rfl⟩) | (go_at_call 10; refine (rlost_any _ _ _ _).mono ?_; rintro e w' ⟨rfl, rfl⟩))
  all_goals go_wp2
  all_goals go_ret
  all_goals exact ⟨rfl, by repeat (first | exact hb' | refine below_new ?_ _ | refine Below.drew ?_ | refine Below.setCell ?_ (by exact Nat.le_refl _) _)⟩
end Go.Proofs.Ytnmiamnmjcjjiaa
