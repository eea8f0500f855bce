/- Join of any frame, the document's Join: what they compute, of bodies of at most 2^20 bytes. -/
import Derived.Test.YtiehhoonfneccaaSP
import Derived.Lib.AppendStr
namespace Go.Proofs.Ytiehhoonfneccaa
open Go.RowKit
theorem own_lit (w : World) (t : TypeId) (b : Nat) (cs : Array Value) (l : List UInt8) (hb : b = w.heap.size) (h : cs = (bv l).toArray) (n : Nat) (hn : n = l.length) (hm : l.length ≤ maxLen) : (w.alloc (.cells cs t)).ownsRow w.heap.size t 1 (.slice (some ⟨b, 0, none⟩) n n) n (bv l) := by
  subst hb
  subst h
  subst hn
  have hl : (bv l).toArray.size = l.length := by simp [bv]
  have := (Row.new w t (bv l).toArray).owns (Nat.le_refl _) (n := l.length) (by rw [hl]; exact Nat.le_refl _) (by rw [hl]; exact hm)
  rw [hl] at this
  have ht : (bv l).take l.length = bv l := by rw [← bv_len l, List.take_length]
  simpa [ht] using this
set_option maxHeartbeats 800000 in
theorem rput_own (V F S O L : Int) (w : World) (hV0 : 0 ≤ V) (hV1 : V < 256) (hF0 : 0 ≤ F) (hF1 : F < 256) (hS0 : -32768 ≤ S) (hS1 : S < 32768) (hO0 : 0 ≤ O) (hO1 : O < 256) (hL0 : 0 ≤ L) (hL1 : L < 4294967296) (h : chk V F O L = 0) :
    Calls Try.prog 17 #[hdr V F S O L] w fun e w' => ∃ v, e = .returned (.tuple #[v, .int .i64 0]) ∧ w'.ownsRow w.heap.size 5 1 v 9 (bv (putH V F S O L)) ∧ Below w.heap.size w w' := by
  by_cases hs : S < 0
  · go_enter Try.func17, Try.ntmps17
    go_wp2_with fail
    refine (rcheck_any V F S O L _ hF0 hF1).mono ?_
    rintro e w1 ⟨rfl, hb⟩
    rw [h]
    obtain ⟨hlt, c0, c1, c2, c3, c4, hb0⟩ := box_kept hb
    clear hb
    go_wp2_with fail
    go_ret2
    refine ⟨_, rfl, owns_mono (own_lit _ _ _ _ _ rfl ?_ 9 (putH_len V F S O L).symm (by rw [putH_len]; decide)) hb0.size, below_new hb0 _⟩
    rw [putH_cells V F S O L hV0 hV1 hF0 hF1 hO0 hO1]
    congr 1
    simp only [List.cons.injEq, Value.int.injEq, true_and, and_true]
    omega
  · go_enter Try.func17, Try.ntmps17
    go_wp2_with fail
    refine (rcheck_any V F S O L _ hF0 hF1).mono ?_
    rintro e w1 ⟨rfl, hb⟩
    rw [h]
    obtain ⟨hlt, c0, c1, c2, c3, c4, hb0⟩ := box_kept hb
    clear hb
    go_wp2_with fail
    go_ret2
    refine ⟨_, rfl, owns_mono (own_lit _ _ _ _ _ rfl ?_ 9 (putH_len V F S O L).symm (by rw [putH_len]; decide)) hb0.size, below_new hb0 _⟩
    rw [putH_cells V F S O L hV0 hV1 hF0 hF1 hO0 hO1]
    congr 1
    simp only [List.cons.injEq, Value.int.injEq, true_and, and_true]
    omega
/-- A frame's value as the reference has it. -/
abbrev fxV (V F S O L : Int) (l : List UInt8) : Value := .agg #[.int .u8 V, .int .u8 F, .int .i16 S, .int .u8 O, .int .u32 L, .string ⟨l.toArray⟩]
theorem size_arr (l : List UInt8) : (⟨l.toArray⟩ : ByteArray).size = l.length := by simp [ByteArray.size]
theorem strCells_bv (l : List UInt8) : Lib.strCells ⟨l.toArray⟩ = bv l := by simp [Lib.strCells, bv]
theorem join_bad {A : Option Addr} {n c : Nat} (V F S O : Int) (w : World) (hn : n ≤ 1048576) (hF0 : 0 ≤ F) (hF1 : F < 256) (h : ¬ chk V F O n = 0) :
    Calls Try.prog 30 #[frV V F S O n A n c] w fun e w' => e = .returned (.tuple #[.slice none 0 0, .int .i64 (chk V F O n)]) ∧ Below w.heap.size w w' := by
  have hp := fun w => hput_bad V F S O n w hF0 hF1 h
  obtain ⟨x, hx⟩ : ∃ x, chk V F O n = x := ⟨_, rfl⟩
  rw [hx] at h hp ⊢
  have HP := Lib.hid hp
  clear hp hx
  go_enter Try.func30, Try.ntmps30
  go_wp2_with fail
  refine (HP.out _).mono ?_
  rintro e w1 ⟨rfl, hb1⟩
  go_wp2_with fail
  go_ret2
  exact ⟨rfl, below_then (below_new (Below.refl _ _) _) hb1⟩
theorem rjoin_body {l : List UInt8} {n : Nat} (V F S O L : Int) (w : World) (hl : l.length = n) (hL0 : 0 ≤ L) (hL1 : L < 4294967296) (hn : n ≤ 1048576) (h : ¬ L = (n : Int)) :
    Calls Try.prog 31 #[fxV V F S O L l] w fun e w' => e = .returned (.tuple #[.slice none 0 0, .int .i64 23]) ∧ Below w.heap.size w w' := by
  have hs := size_arr l
  rw [hl] at hs
  clear hl
  go_enter Try.func31, Try.ntmps31
  go_wp2_with fail
  go_ret2
  exact ⟨rfl, below_new (Below.refl _ _) _⟩
theorem rjoin_bad {l : List UInt8} {n : Nat} (V F S O : Int) (w : World) (hl : l.length = n) (hn : n ≤ 1048576) (hF0 : 0 ≤ F) (hF1 : F < 256) (h : ¬ chk V F O n = 0) :
    Calls Try.prog 31 #[fxV V F S O n l] w fun e w' => e = .returned (.tuple #[.slice none 0 0, .int .i64 (chk V F O n)]) ∧ Below w.heap.size w w' := by
  have hs := size_arr l
  rw [hl] at hs
  clear hl
  have hp := fun w => rput_bad V F S O n w hF0 hF1 h
  obtain ⟨x, hx⟩ : ∃ x, chk V F O n = x := ⟨_, rfl⟩
  rw [hx] at h hp ⊢
  have HP := Lib.hid hp
  clear hp hx
  go_enter Try.func31, Try.ntmps31
  go_wp2_with fail
  refine (HP.out _).mono ?_
  rintro e w1 ⟨rfl, hb1⟩
  go_wp2_with fail
  go_ret2
  exact ⟨rfl, below_then (below_new (Below.refl _ _) _) hb1⟩
set_option maxHeartbeats 800000 in
theorem rjoin_ok {l : List UInt8} {n : Nat} (V F S O : Int) (w : World) (hl : l.length = n) (hn : n ≤ 1048576) (hV0 : 0 ≤ V) (hV1 : V < 256) (hF0 : 0 ≤ F) (hF1 : F < 256) (hS0 : -32768 ≤ S) (hS1 : S < 32768) (hO0 : 0 ≤ O) (hO1 : O < 256) (h : chk V F O n = 0) :
    Calls Try.prog 31 #[fxV V F S O n l] w fun e w' => ∃ A N c, e = .returned (.tuple #[.slice A N c, .int .i64 0]) ∧ SW w' A N c (putH V F S O n ++ l) ∧ Below w.heap.size w w' := by
  obtain ⟨i0, hi, hz0, hz1, hz2⟩ := info_parts info_byte
  have hs := size_arr l
  rw [hl] at hs
  clear hl
  go_enter Try.func31, Try.ntmps31
  go_wp2_with fail
  refine (rput_own V F S O n _ hV0 hV1 hF0 hF1 hS0 hS1 hO0 hO1 (by omega) (by omega) h).mono ?_
  rintro e w1 ⟨v, rfl, hown, hb1⟩
  obtain ⟨hlt, c5, hb01⟩ := box6_kept hb1
  have hob := own_blk hown
  obtain ⟨v7, w7, hrun7, hown7, hg7, _⟩ := Lib.run_append_own_string (P := Try.prog) _ (w.heap.size + 1) 27 9 27 5 i0 Try.underlying27 Try.underlying9 hi hz0 hz1 hz2 _ 9 _ (owns_mono hown (by simp)) ⟨l.toArray⟩ (by rw [hs]; unfold maxLen; omega) (by rw [hs]; omega) hlt
  rw [hs, strCells_bv, ← bv_append] at hown7
  obtain ⟨A7, c7, rfl, sw7⟩ := SW.of_own hown7
  go_wp2_with (at_builtin; refine Lib.wpList_append_run _ rfl _ _ _ _ rfl _ _ rfl rfl _ _ hrun7 ?_)
  go_ret2
  refine ⟨_, _, _, rfl, sw7, ?_⟩
  refine below_then (w := w.alloc (.cells #[.int .u8 V, .int .u8 F, .int .i16 S, .int .u8 O, .int .u32 n, .string ⟨l.toArray⟩] 64)) (below_new (Below.refl _ _) _) ?_
  exact hb1.grown hg7 hb1.size hob
end Go.Proofs.Ytiehhoonfneccaa
