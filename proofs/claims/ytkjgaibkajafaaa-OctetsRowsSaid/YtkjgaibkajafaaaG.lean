/- The walk of OctetsGets. No condition. -/
import Derived.Test.YtkjgaibkajafaaaW
namespace Go.Proofs.Ytkjgaibkajafaaa
open Go.RowKit
theorem str_drawn {w : World} {B n c : Nat} {A : Option Addr} {l : List UInt8} (h : BS w B A n c l) : ∀ k, (convert 23 9 (.slice A n c)).run Try.prog (w.drewN k) = .ok (.string ⟨l.toArray⟩) (w.drewN k) :=
  fun k => run_str (h.drewN k) 23 9 5 Try.underlying23 Try.underlying5 Try.underlying9
theorem str_now {w : World} {B n c : Nat} {A : Option Addr} {l : List UInt8} (h : BS w B A n c l) : (convert 23 9 (.slice A n c)).run Try.prog w = .ok (.string ⟨l.toArray⟩) w :=
  run_str h 23 9 5 Try.underlying23 Try.underlying5 Try.underlying9
set_option maxHeartbeats 800000 in
theorem gets_any {A : Option Addr} {m c : Nat} {l : List UInt8} (n : Int) (w : World) (hl : BS w w.heap.size A m c l) :
    Calls Try.prog 4 #[.slice A m c, .int .i64 n] w fun e w' => e = .returned (.bool true) ∧ Below w.heap.size w w' := by
  have hmx := hl.max
  have hcap := hl.cap
  unfold maxLen at hmx
  by_cases hn : 1 ≤ n ∧ n ≤ 8
  · by_cases hs : (m : Int) < n
    · go_enter Try.func4, Try.ntmps4
      go_wp2_with fail
      refine (awake_any _).mono ?_
      rintro e w1 ⟨rfl, hb⟩
      go_wp2_with fail
      refine (get_short _ _ _ _ _ hn.1 hn.2 hs).mono ?_
      rintro e w2 ⟨rfl, rfl⟩
      go_wp2_with fail
      refine (rget_short _ _ _ _ _ _ (by omega) hn.1 hn.2 (by omega) (by omega) (by omega)).mono ?_
      rintro e w2 ⟨rfl, rfl⟩
      go_wp2_with fail
      go_quiet (fail)
      go_wp2_with fail
      go_ret
      exact ⟨rfl, below_drewN hb _⟩
    · obtain ⟨z, rfl⟩ := Int.eq_ofNat_of_zero_le (show 0 ≤ n by omega)
      have hF := Lib.hid (hl.from_ (k := z) (by omega))
      have i0 : (0 : Int) ≤ (z : Int) := by omega
      have i1 : (z : Int) ≤ (m : Int) := by omega
      go_enter Try.func4, Try.ntmps4
      go_wp2_with fail
      refine (awake_any _).mono ?_
      rintro e w1 ⟨rfl, hb⟩
      go_wp2_with fail
      have hl1 := hl.below hb
      refine (get_any _ _ hl1 hn.1 hn.2 (by omega)).mono ?_
      rintro e w2 ⟨A2, q, rfl, hbs2, rfl⟩
      rw [Int.toNat_natCast]
      go_wp2_with fail
      refine (rget_any _ _ _ (hl1.drewN q) hn.1 hn.2 (by omega) (by omega)).mono ?_
      rintro e w2 ⟨rfl, rfl⟩
      rw [Int.toNat_natCast]
      have hs1 := str_drawn hbs2
      have hs2 := str_drawn (hF.out.below hb)
      rw [Int.toNat_natCast] at hs1
      by_cases hcz : c = z
      · rw [if_pos hcz] at hs2
        obtain rfl : m = z := by omega
        obtain rfl : c = m := hcz
        rw [Nat.sub_self] at hs1 hs2
        go_wp2_with fail
        go_quiet (fail)
        go_wp2_with fail
        go_ret
        exact ⟨rfl, below_drewN (below_drewN hb _) _⟩
      · rw [if_neg hcz] at hs2
        go_wp2_with fail
        go_quiet (fail)
        go_wp2_with fail
        go_ret
        exact ⟨rfl, below_drewN (below_drewN hb _) _⟩
  · go_enter Try.func4, Try.ntmps4
    go_wp2_with fail
    refine (awake_any _).mono ?_
    rintro e w1 ⟨rfl, hb⟩
    go_wp2_with fail
    refine (get_arg _ _ _ _ _ hn).mono ?_
    rintro e w2 ⟨rfl, rfl⟩
    go_wp2_with fail
    refine (rget_arg _ _ _ _ _ _ hn).mono ?_
    rintro e w2 ⟨rfl, rfl⟩
    go_wp2_with fail
    go_quiet (fail)
    go_wp2_with fail
    go_ret
    exact ⟨rfl, below_drewN hb _⟩
end Go.Proofs.Ytkjgaibkajafaaa
