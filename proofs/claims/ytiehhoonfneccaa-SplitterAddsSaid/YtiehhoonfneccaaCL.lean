/- slices.Clone of bytes: what it computes, all inputs whose bytes take at most 2^47. -/
import Derived.Test.YtiehhoonfneccaaOC
import Derived.Deep.RegionHeld3
namespace Go.Proofs.Ytiehhoonfneccaa
open Go.RowKit
theorem eql_nil (W : World) (a : Option Addr) (n c : Nat) : (binOp .eql 27 (.slice a n c) (.slice none 0 0)).run Try.prog W = .ok (.bool a.isNone) W :=
  Lib.run_eql_slice_nil (P := Try.prog) W 27 5 a n c 0 0 Try.underlying27
set_option maxHeartbeats 400000 in
theorem clone_any {B : Nat} {A : Option Addr} {n c : Nat} {l : List UInt8} (w : World) (hl : BS w B A n c l) (hB : B ≤ w.heap.size) (hn : n ≤ 140737488355328) :
    Calls Try.prog 37 #[.slice A n c] w fun e w' => ∃ v, e = .returned v ∧ w'.ownsRow w.heap.size 5 1 v n (bv l) ∧ Below w.heap.size w w' := by
  obtain ⟨i0, hi, hz0, hz1, hz2⟩ := info_parts info_byte
  have hnil := eql_nil
  cases A with
  | none =>
    obtain rfl : c = 0 := hl.nil rfl
    obtain rfl : n = 0 := by have := hl.cap; omega
    obtain rfl : l = [] := hl.empty rfl
    go_enter Try.func37, Try.ntmps37
    go_wp2_with fail
    go_ret
    exact ⟨_, rfl, World.ownsRow_nil _ _ _ _, Below.refl _ _⟩
  | some a =>
    have hl' := hl.alloc hB (.cells #[] 5)
    go_enter Try.func37, Try.ntmps37
    go_wp2_with (at_builtin; refine wpList_append_bs _ rfl _ _ 27 rfl w.heap.size 5 i0 (.int .u8 0) Try.underlying27 hi hz0 hz1 hz2 rfl _ 0 [] rfl ?_ rfl hl' ?_ ?_ ?_)
    · exact (Row.new w 5 #[]).owns (Nat.le_refl _) (Nat.le_refl _) (Nat.zero_le _)
    · omega
    · simp
    · intro v' w' hown hg hat
      go_wp2_with fail
      go_ret
      refine ⟨_, rfl, by simpa using hown, (below_new (Below.refl _ _) _).grown hg (by simp) ?_⟩
      intro k hk
      simp [Value.ownBlock] at hk
      omega
end Go.Proofs.Ytiehhoonfneccaa
