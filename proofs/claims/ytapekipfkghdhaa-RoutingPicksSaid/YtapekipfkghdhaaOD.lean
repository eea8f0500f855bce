/- slices.Clone of bytes, octets.Take: what they compute, all inputs whose bytes take at most 2^47. -/
import Derived.Test.YtapekipfkghdhaaOC
import Derived.Deep.RegionHeld3
namespace Go.Proofs.Ytapekipfkghdhaa
open Go.RowKit
theorem eql_nil (W : World) (a : Option Addr) (n c : Nat) : (binOp .eql 22 (.slice a n c) (.slice none 0 0)).run Try.prog W = .ok (.bool a.isNone) W :=
  Lib.run_eql_slice_nil (P := Try.prog) W 22 5 a n c 0 0 Try.underlying22
set_option maxHeartbeats 400000 in
theorem clone_any {B : Nat} {A : Option Addr} {n c : Nat} {l : List UInt8} (w : World) (hl : BS w B A n c l) (hB : B ≤ w.heap.size) (hn : n ≤ 140737488355328) :
    Calls Try.prog 39 #[.slice A n c] w fun e w' => ∃ v, e = .returned v ∧ w'.ownsRow w.heap.size 5 1 v n (bv l) ∧ Below w.heap.size w w' := by
  obtain ⟨i0, hi, hz0, hz1, hz2⟩ := info_parts info_byte
  have hnil := eql_nil
  cases A with
  | none =>
    obtain rfl : c = 0 := hl.nil rfl
    obtain rfl : n = 0 := by have := hl.cap; omega
    obtain rfl : l = [] := hl.empty rfl
    go_enter Try.func39, Try.ntmps39
    go_wp2_with fail
    go_ret
    exact ⟨_, rfl, World.ownsRow_nil _ _ _ _, Below.refl _ _⟩
  | some a =>
    have hl' := hl.alloc hB (.cells #[] 5)
    go_enter Try.func39, Try.ntmps39
    go_wp2_with (at_builtin; refine wpList_append_bs _ rfl _ _ 22 rfl w.heap.size 5 i0 (.int .u8 0) Try.underlying22 hi hz0 hz1 hz2 rfl _ 0 [] rfl ?_ rfl hl' ?_ ?_ ?_)
    · exact (Row.new w 5 #[]).owns (Nat.le_refl _) (Nat.le_refl _) (Nat.zero_le _)
    · omega
    · simp
    · intro v' w' hown hg hat
      go_wp2_with fail
      go_ret
      refine ⟨_, rfl, by simpa using hown, (below_new (Below.refl _ _) _).grown hg (by simp) ?_⟩
      intro k hk
      simp [Value.ownBlock] at hk
      omega
theorem take_short (A : Option Addr) (m c : Nat) (n : Int) (w : World) (hm : m ≤ maxLen) (h : (m : Int) < n) : Calls Try.prog 45 #[.slice A m c, .int .u64 n] w fun e w' => e = .returned (.tuple #[.slice none 0 0, .slice none 0 0, .int .i64 10]) ∧ w = w' := by
  unfold maxLen at hm
  go_enter Try.func45, Try.ntmps45
  go_wp2_with fail
  go_ret3
  exact ⟨rfl, rfl⟩
set_option maxHeartbeats 400000 in
theorem take_any {A : Option Addr} {m c : Nat} {l : List UInt8} (n : Int) (w : World) (hl : BS w w.heap.size A m c l) (h0 : 0 ≤ n) (h : n ≤ m) (hb : m ≤ 140737488355328) :
    Calls Try.prog 45 #[.slice A m c, .int .u64 n] w fun e w' => ∃ v A', e = .returned (.tuple #[v, .slice A' (m - n.toNat) (c - n.toNat), .int .i64 0]) ∧ w'.ownsRow w.heap.size 5 1 v n.toNat (bv (l.take n.toNat)) ∧ BS w' w.heap.size A' (m - n.toNat) (c - n.toNat) (l.drop n.toNat) ∧ Below w.heap.size w w' := by
  obtain ⟨z, rfl⟩ := Int.eq_ofNat_of_zero_le h0
  rw [Int.toNat_natCast]
  have hcap := hl.cap
  have hmx := hl.max
  unfold maxLen at hmx
  have HU := Lib.hid (hl.upto (k := z) (by omega))
  have hF := hl.from_ (k := z) (by omega)
  have i0 : (0 : Int) ≤ (z : Int) := by omega
  have i1 : (z : Int) ≤ (m : Int) := by omega
  have i2 : (z : Int) ≤ (c : Int) := by omega
  by_cases hcz : c = z
  · obtain rfl : m = z := by omega
    obtain rfl : c = m := by omega
    rw [if_pos rfl] at hF
    have HF := Lib.hid hF
    clear hl hF
    go_enter Try.func45, Try.ntmps45
    go_wp2_with fail
    go_region_held3 (fun w' => Below w.heap.size w w') (first | exact (Below.refl _ _).drew | assumption | exact below_then (by assumption) (by assumption))
      (first | (go_at_call 39; refine (clone_any _ (HU.out.below (by assumption)) (Below.size (by assumption)) (by omega)).mono ?_; rintro e w' ⟨v, rfl, hown, hbl⟩))
    go_wp2_with fail
    go_ret3
    have hbw : Below w.heap.size w w' := by assumption
    exact ⟨_, _, by simp; rfl, hown, by simpa using HF.out.below hbw, hbw⟩
  · rw [if_neg hcz] at hF
    have HF := Lib.hid hF
    clear hl hF
    go_enter Try.func45, Try.ntmps45
    go_wp2_with fail
    go_region_held3 (fun w' => Below w.heap.size w w') (first | exact (Below.refl _ _).drew | assumption | exact below_then (by assumption) (by assumption))
      (first | (go_at_call 39; refine (clone_any _ (HU.out.below (by assumption)) (Below.size (by assumption)) (by omega)).mono ?_; rintro e w' ⟨v, rfl, hown, hbl⟩))
    go_wp2_with fail
    go_ret3
    have hbw : Below w.heap.size w w' := by assumption
    exact ⟨_, _, rfl, hown, HF.out.below hbw, hbw⟩
end Go.Proofs.Ytapekipfkghdhaa
