/- The document's Check: what it computes. No condition but that the flags are a byte. -/
import Derived.Test.YtiehhoonfneccaaHB
namespace Go.Proofs.Ytiehhoonfneccaa
open Go.RowKit
theorem rcheck_no (V F S O L : Int) (w : World) (h4 : ¬ V = 4) (h132 : ¬ V = 132) :
    Calls Try.prog 20 #[hdr V F S O L] w fun e w' => e = .returned (.int .i64 20) ∧ Below w.heap.size w w' := by
  have b4 : (V != 4) = true := by simp [h4]
  have b132 : (V == 132) = false := by simp [h132]
  go_enter Try.func20, Try.ntmps20
  go_wp2_with fail
  go_ret
  exact ⟨rfl, below_new (Below.refl _ _) _⟩
theorem rbad_4_a (F S O L : Int) (w : World) (h0 : 0 ≤ F) (hF1 : F < 256) (i0 : F % 2 = 1) :
    Calls Try.prog 20 #[hdr 4 F S O L] w fun e w' => e = .returned (.int .i64 21) ∧ Below w.heap.size w w' := by
  go_enter Try.func20, Try.ntmps20
  go_wp2_with fail
  go_ret
  exact ⟨rfl, below_new (Below.refl _ _) _⟩
theorem rbad_4_b (F S O L : Int) (w : World) (h0 : 0 ≤ F) (hF1 : F < 256) (i0 : ¬ F % 2 = 1) (i1 : 8 ≤ F / 2) :
    Calls Try.prog 20 #[hdr 4 F S O L] w fun e w' => e = .returned (.int .i64 21) ∧ Below w.heap.size w w' := by
  go_enter Try.func20, Try.ntmps20
  go_wp2_with fail
  go_ret
  exact ⟨rfl, below_new (Below.refl _ _) _⟩
theorem rbad_4_c (F S O L : Int) (w : World) (h0 : 0 ≤ F) (hF1 : F < 256) (i0 : ¬ F % 2 = 1) (i1 : ¬ 8 ≤ F / 2) (i2 : 4 ≤ F / 2) :
    Calls Try.prog 20 #[hdr 4 F S O L] w fun e w' => e = .returned (.int .i64 21) ∧ Below w.heap.size w w' := by
  go_enter Try.func20, Try.ntmps20
  go_wp2_with fail
  go_ret
  exact ⟨rfl, below_new (Below.refl _ _) _⟩
theorem rbad_132_a (F S O L : Int) (w : World) (h0 : 0 ≤ F) (hF1 : F < 256) (i0 : F % 2 = 1) :
    Calls Try.prog 20 #[hdr 132 F S O L] w fun e w' => e = .returned (.int .i64 21) ∧ Below w.heap.size w w' := by
  go_enter Try.func20, Try.ntmps20
  go_wp2_with fail
  go_ret
  exact ⟨rfl, below_new (Below.refl _ _) _⟩
theorem rbad_132_b (F S O L : Int) (w : World) (h0 : 0 ≤ F) (hF1 : F < 256) (i0 : ¬ F % 2 = 1) (i1 : 8 ≤ F / 2) :
    Calls Try.prog 20 #[hdr 132 F S O L] w fun e w' => e = .returned (.int .i64 21) ∧ Below w.heap.size w w' := by
  go_enter Try.func20, Try.ntmps20
  go_wp2_with fail
  go_ret
  exact ⟨rfl, below_new (Below.refl _ _) _⟩
theorem str_4 (k : Nat) (h : k < (opsOf 4).length) (h' : k < (⟨#[1, 5, 7, 9, 10, 11, 13, 15]⟩ : ByteArray).size) : ((⟨#[1, 5, 7, 9, 10, 11, 13, 15]⟩ : ByteArray)[k]'h').toNat = ((opsOf 4)[k]'h).toNat := rfl
set_option maxHeartbeats 1600000 in
theorem rgood_4 (F S O L : Int) (w : World) (hF0 : 0 ≤ F) (hF1 : F < 256) (hbf : Hid (chk 4 F O L = if hasB (opsOf 4) O = false then 22 else if 1048576 < L then 12 else 0)) (i0 : ¬ F % 2 = 1) (i1 : ¬ 4 ≤ F / 2) (i2 : ¬ 8 ≤ F / 2) :
    Calls Try.prog 20 #[hdr 4 F S O L] w fun e w' => e = .returned (.int .i64 (chk 4 F O L)) ∧ Below w.heap.size w w' := by
  go_enter Try.func20, Try.ntmps20
  go_wp2_with fail
  go_loopw [6, 7] (fun f i wr => ∃ k : Nat, k ≤ 8 ∧ i = .int .i64 k ∧ f = .bool (hasB ((opsOf 4).take k) O) ∧ Below (w.alloc (.cells #[.int .u8 4, .int .u8 F, .int .i16 S, .int .u8 O, .int .u32 L] 32)).heap.size (w.alloc (.cells #[.int .u8 4, .int .u8 F, .int .i16 S, .int .u8 O, .int .u32 L] 32)) wr) (fun _ i _ => 8 - (intOf i).toNat)
  case atStart => exact ⟨0, Nat.zero_le _, rfl, rfl, Below.refl _ _⟩
  case round =>
    obtain ⟨k, hk, rfl, rfl, hb⟩ := hrel
    obtain ⟨hlt, c0, c1, c2, c3, c4, hb0⟩ := box_kept hb
    by_cases hk8 : k < 8
    · have HT := Lib.hid (hasB_take (opsOf 4) k hk8 O)
      cases hf : hasB ((opsOf 4).take k) O
      · have HF := Lib.hid hf
        clear hf
        go_wp2_with fail
        go_quiet (fail)
        go_wp2_with fail
        exact ⟨⟨k + 1, by omega, by go_num, by rw [HT.out, HF.out]; rfl, below_drewN hb _⟩, by simp [intOf]; omega⟩
      · have HF := Lib.hid hf
        clear hf
        go_wp2_with fail
        go_quiet (fail)
        go_wp2_with fail
        exact ⟨⟨k + 1, by omega, by go_num, by rw [HT.out, HF.out]; rfl, below_drewN hb _⟩, by simp [intOf]; omega⟩
    · obtain rfl : k = 8 := by omega
      have he : (opsOf 4).take 8 = opsOf 4 := rfl
      rw [he]
      cases hf : hasB (opsOf 4) O
      · have hc : chk 4 F O L = 22 := by rw [hbf.out, hf]; rfl
        have HC := Lib.hid hc
        clear hf hc
        go_wp2_with fail
        go_ret
        exact ⟨ret_int HC.out.symm, hb0⟩
      · by_cases hL : 1048576 < L
        · have hc : chk 4 F O L = 12 := by rw [hbf.out, hf]; simp [hL]
          have HC := Lib.hid hc
          clear hf hc
          go_wp2_with fail
          go_ret
          exact ⟨ret_int HC.out.symm, hb0⟩
        · have hc : chk 4 F O L = 0 := by rw [hbf.out, hf]; simp [hL]
          have HC := Lib.hid hc
          clear hf hc
          go_wp2_with fail
          go_ret
          exact ⟨ret_int HC.out.symm, hb0⟩
theorem str_132 (k : Nat) (h : k < (opsOf 132).length) (h' : k < (⟨#[0, 2, 3, 6, 8, 12, 14, 16]⟩ : ByteArray).size) : ((⟨#[0, 2, 3, 6, 8, 12, 14, 16]⟩ : ByteArray)[k]'h').toNat = ((opsOf 132)[k]'h).toNat := rfl
set_option maxHeartbeats 1600000 in
theorem rgood_132 (F S O L : Int) (w : World) (hF0 : 0 ≤ F) (hF1 : F < 256) (hbf : Hid (chk 132 F O L = if hasB (opsOf 132) O = false then 22 else if 1048576 < L then 12 else 0)) (i0 : ¬ F % 2 = 1) (i2 : ¬ 8 ≤ F / 2) :
    Calls Try.prog 20 #[hdr 132 F S O L] w fun e w' => e = .returned (.int .i64 (chk 132 F O L)) ∧ Below w.heap.size w w' := by
  by_cases i1 : 4 ≤ F / 2
  · go_enter Try.func20, Try.ntmps20
    go_wp2_with fail
    go_loopw [6, 7] (fun f i wr => ∃ k : Nat, k ≤ 8 ∧ i = .int .i64 k ∧ f = .bool (hasB ((opsOf 132).take k) O) ∧ Below (w.alloc (.cells #[.int .u8 132, .int .u8 F, .int .i16 S, .int .u8 O, .int .u32 L] 32)).heap.size (w.alloc (.cells #[.int .u8 132, .int .u8 F, .int .i16 S, .int .u8 O, .int .u32 L] 32)) wr) (fun _ i _ => 8 - (intOf i).toNat)
    case atStart => exact ⟨0, Nat.zero_le _, rfl, rfl, Below.refl _ _⟩
    case round =>
      obtain ⟨k, hk, rfl, rfl, hb⟩ := hrel
      obtain ⟨hlt, c0, c1, c2, c3, c4, hb0⟩ := box_kept hb
      by_cases hk8 : k < 8
      · have HT := Lib.hid (hasB_take (opsOf 132) k hk8 O)
        cases hf : hasB ((opsOf 132).take k) O
        · have HF := Lib.hid hf
          clear hf
          go_wp2_with fail
          go_quiet (fail)
          go_wp2_with fail
          exact ⟨⟨k + 1, by omega, by go_num, by rw [HT.out, HF.out]; rfl, below_drewN hb _⟩, by simp [intOf]; omega⟩
        · have HF := Lib.hid hf
          clear hf
          go_wp2_with fail
          go_quiet (fail)
          go_wp2_with fail
          exact ⟨⟨k + 1, by omega, by go_num, by rw [HT.out, HF.out]; rfl, below_drewN hb _⟩, by simp [intOf]; omega⟩
      · obtain rfl : k = 8 := by omega
        have he : (opsOf 132).take 8 = opsOf 132 := rfl
        rw [he]
        cases hf : hasB (opsOf 132) O
        · have hc : chk 132 F O L = 22 := by rw [hbf.out, hf]; rfl
          have HC := Lib.hid hc
          clear hf hc
          go_wp2_with fail
          go_ret
          exact ⟨ret_int HC.out.symm, hb0⟩
        · by_cases hL : 1048576 < L
          · have hc : chk 132 F O L = 12 := by rw [hbf.out, hf]; simp [hL]
            have HC := Lib.hid hc
            clear hf hc
            go_wp2_with fail
            go_ret
            exact ⟨ret_int HC.out.symm, hb0⟩
          · have hc : chk 132 F O L = 0 := by rw [hbf.out, hf]; simp [hL]
            have HC := Lib.hid hc
            clear hf hc
            go_wp2_with fail
            go_ret
            exact ⟨ret_int HC.out.symm, hb0⟩
  · go_enter Try.func20, Try.ntmps20
    go_wp2_with fail
    go_loopw [6, 7] (fun f i wr => ∃ k : Nat, k ≤ 8 ∧ i = .int .i64 k ∧ f = .bool (hasB ((opsOf 132).take k) O) ∧ Below (w.alloc (.cells #[.int .u8 132, .int .u8 F, .int .i16 S, .int .u8 O, .int .u32 L] 32)).heap.size (w.alloc (.cells #[.int .u8 132, .int .u8 F, .int .i16 S, .int .u8 O, .int .u32 L] 32)) wr) (fun _ i _ => 8 - (intOf i).toNat)
    case atStart => exact ⟨0, Nat.zero_le _, rfl, rfl, Below.refl _ _⟩
    case round =>
      obtain ⟨k, hk, rfl, rfl, hb⟩ := hrel
      obtain ⟨hlt, c0, c1, c2, c3, c4, hb0⟩ := box_kept hb
      by_cases hk8 : k < 8
      · have HT := Lib.hid (hasB_take (opsOf 132) k hk8 O)
        cases hf : hasB ((opsOf 132).take k) O
        · have HF := Lib.hid hf
          clear hf
          go_wp2_with fail
          go_quiet (fail)
          go_wp2_with fail
          exact ⟨⟨k + 1, by omega, by go_num, by rw [HT.out, HF.out]; rfl, below_drewN hb _⟩, by simp [intOf]; omega⟩
        · have HF := Lib.hid hf
          clear hf
          go_wp2_with fail
          go_quiet (fail)
          go_wp2_with fail
          exact ⟨⟨k + 1, by omega, by go_num, by rw [HT.out, HF.out]; rfl, below_drewN hb _⟩, by simp [intOf]; omega⟩
      · obtain rfl : k = 8 := by omega
        have he : (opsOf 132).take 8 = opsOf 132 := rfl
        rw [he]
        cases hf : hasB (opsOf 132) O
        · have hc : chk 132 F O L = 22 := by rw [hbf.out, hf]; rfl
          have HC := Lib.hid hc
          clear hf hc
          go_wp2_with fail
          go_ret
          exact ⟨ret_int HC.out.symm, hb0⟩
        · by_cases hL : 1048576 < L
          · have hc : chk 132 F O L = 12 := by rw [hbf.out, hf]; simp [hL]
            have HC := Lib.hid hc
            clear hf hc
            go_wp2_with fail
            go_ret
            exact ⟨ret_int HC.out.symm, hb0⟩
          · have hc : chk 132 F O L = 0 := by rw [hbf.out, hf]; simp [hL]
            have HC := Lib.hid hc
            clear hf hc
            go_wp2_with fail
            go_ret
            exact ⟨ret_int HC.out.symm, hb0⟩
/-- The document's Check, of every header. -/
theorem rcheck_any (V F S O L : Int) (w : World) (hF0 : 0 ≤ F) (hF1 : F < 256) :
    Calls Try.prog 20 #[hdr V F S O L] w fun e w' => e = .returned (.int .i64 (chk V F O L)) ∧ Below w.heap.size w w' := by
  by_cases h4 : V = 4
  · subst h4
    by_cases i0 : F % 2 = 1
    · rw [show chk 4 F O L = 21 from by simp [chk, badF, i0]]
      exact rbad_4_a F S O L w hF0 hF1 i0
    · by_cases i1 : 8 ≤ F / 2
      · rw [show chk 4 F O L = 21 from by simp [chk, badF, i0]; omega]
        exact rbad_4_b F S O L w hF0 hF1 i0 i1
      · by_cases i2 : 4 ≤ F / 2
        · rw [show chk 4 F O L = 21 from by simp [chk, badF, i0, i2]]
          exact rbad_4_c F S O L w hF0 hF1 i0 i1 i2
        · exact rgood_4 F S O L w hF0 hF1 (Lib.hid (by simp [chk, badF, i0, i2])) i0 i2 i1
  · by_cases h132 : V = 132
    · subst h132
      by_cases i0 : F % 2 = 1
      · rw [show chk 132 F O L = 21 from by simp [chk, badF, i0]]
        exact rbad_132_a F S O L w hF0 hF1 i0
      · by_cases i1 : 8 ≤ F / 2
        · rw [show chk 132 F O L = 21 from by simp [chk, badF, i0, i1]]
          exact rbad_132_b F S O L w hF0 hF1 i0 i1
        · exact rgood_132 F S O L w hF0 hF1 (Lib.hid (by simp [chk, badF, i0, i1])) i0 i1
    · rw [show chk V F O L = 20 from by simp [chk, h4, h132]]
      exact rcheck_no V F S O L w h4 h132
end Go.Proofs.Ytiehhoonfneccaa
