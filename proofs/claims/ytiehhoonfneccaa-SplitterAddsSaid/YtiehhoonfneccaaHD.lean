/- HeaderBack: the walk, of bytes that take at most 2^47 - 9. -/
import Derived.Test.YtiehhoonfneccaaHJ
namespace Go.Proofs.Ytiehhoonfneccaa
open Go.RowKit
theorem own_blk {w : World} {base e n : Nat} {v : Value} {xs : List Value} (h : w.ownsRow base e 1 v n xs) : ∀ k, v.ownBlock = some k → base ≤ k := fun k hk => (h.lt k hk).1
theorem getE_0 {l : List UInt8} (h : getE l = 0) : 9 ≤ l.length ∧ chk (bI l 0) (bI l 1) (bI l 4) (hL l) = 0 ∧ getH l = hdr (bI l 0) (bI l 1) (hS l) (bI l 4) (hL l) := by
  have h1 := h
  unfold getE at h1
  by_cases h9 : l.length < 9
  · rw [if_pos h9] at h1; omega
  · rw [if_neg h9] at h1
    refine ⟨by omega, h1, ?_⟩
    unfold getH
    rw [if_pos h]
theorem getH_no {l : List UInt8} (h : ¬ getE l = 0) : getH l = hdr 0 0 0 0 0 := by
  unfold getH
  rw [if_neg h]
set_option maxHeartbeats 1600000 in
theorem back_ok_ok {A : Option Addr} {n c : Nat} {l : List UInt8} (V F S O L : Int) (w : World) (hl : BS w w.heap.size A n c l) (hn : n ≤ 140737488355319) (hV0 : 0 ≤ V) (hV1 : V < 256) (hF0 : 0 ≤ F) (hF1 : F < 256) (hS0 : -32768 ≤ S) (hS1 : S < 32768) (hO0 : 0 ≤ O) (hO1 : O < 256) (hL0 : 0 ≤ L) (hL1 : L < 4294967296) (h : chk V F O L = 0) (h2 : getE l = 0) :
    Calls Try.prog 5 #[hdr V F S O L, .slice A n c] w fun e w' => e = .returned (.bool true) ∧ Below w.heap.size w w' := by
  have hlen := hl.len
  have hcap := hl.cap
  have hmx := hl.max
  unfold maxLen at hmx
  obtain ⟨h9', hC2', hH2'⟩ := getE_0 h2
  have h9 : 9 ≤ n := by omega
  have hP2' := get_put l h9'
  have hpr' : ((0 ≤ bI l 0 ∧ bI l 0 < 256) ∧ (0 ≤ bI l 1 ∧ bI l 1 < 256) ∧ (-32768 ≤ hS l ∧ hS l < 32768) ∧ (0 ≤ bI l 4 ∧ bI l 4 < 256) ∧ (0 ≤ hL l ∧ hL l < 4294967296)) := ⟨⟨bI_lo l 0, bI_hi l 0⟩, ⟨bI_lo l 1, bI_hi l 1⟩, hS_rng l, ⟨bI_lo l 4, bI_hi l 4⟩, ⟨hL_lo l, hL_hi l⟩⟩
  obtain ⟨V2, hV2⟩ : ∃ x, bI l 0 = x := ⟨_, rfl⟩
  obtain ⟨F2, hF2⟩ : ∃ x, bI l 1 = x := ⟨_, rfl⟩
  obtain ⟨S2, hS2⟩ : ∃ x, hS l = x := ⟨_, rfl⟩
  obtain ⟨O2, hO2⟩ : ∃ x, bI l 4 = x := ⟨_, rfl⟩
  obtain ⟨L2, hL2⟩ : ∃ x, hL l = x := ⟨_, rfl⟩
  rw [hV2, hF2, hO2, hL2] at hC2'
  rw [hV2, hF2, hS2, hO2, hL2] at hH2' hP2' hpr'
  have hE2 := Lib.hid h2
  have hC2 := Lib.hid hC2'
  have hH2 := Lib.hid hH2'
  have hP2 := Lib.hid hP2'
  have hpr := Lib.hid hpr'
  clear h2 h9' hC2' hH2' hP2' hpr' hV2 hF2 hS2 hO2 hL2
  go_enter Try.func5, Try.ntmps5
  go_wp2_with fail
  refine (awake5 _).mono ?_
  rintro e w1 ⟨rfl, hb1⟩
  obtain ⟨hlt1, c0, c1, c2, c3, c4, hb01⟩ := box_kept hb1
  have hl1 : SW w1 A n c l := SW.then_ (SW.alloc hl _) hb1
  clear hb1
  go_wp2_with fail
  refine (hput_ok V F S O L _ hV0 hV1 hF0 hF1 hO0 hO1 hL0 hL1 h).mono ?_
  rintro e w2 ⟨v, rfl, hown, hb2⟩
  have hl2 := hl1.then_ hb2
  obtain ⟨i0, hi, hz0, hz1, hz2⟩ := info_parts info_byte
  have hob := own_blk hown
  obtain ⟨pE, pH⟩ := put_get hV0 hV1 hF0 hF1 hS0 hS1 hO0 hO1 hL0 hL1 l h
  have HPE := Lib.hid pE
  have HPH := Lib.hid pH
  clear pE pH
  obtain ⟨A1, n1, hv1, sw1⟩ := SW.of_own hown
  rw [hv1] at hown hob ⊢
  clear hv1
  go_wp2_with (at_builtin; refine wpList_append_bs _ rfl _ _ 27 rfl w1.heap.size 5 i0 (.int .u8 0) Try.underlying27 hi hz0 hz1 hz2 rfl _ 9 _ rfl hown rfl hl2 ?_ ?_ ?_)
  · omega
  · exact hb2.size
  · intro v3 w3 hown3 hg3 hat3
    rw [← bv_append] at hown3
    have hb3 : Below w1.heap.size w1 w3 := hb2.grown hg3 hb2.size hob
    obtain ⟨A3, c3', rfl, sw3⟩ := SW.of_own hown3
    go_wp2_with fail
    refine (hget_any _ sw3 (Nat.le_refl _)).mono ?_
    rintro e w4 ⟨rfl, hb4⟩
    have hb14 : Below w1.heap.size w1 w4 := below_then hb3 hb4
    rw [HPE.out, HPH.out]
    obtain ⟨hlt4, d0, d1, d2, d3, d4⟩ := put_s hlt1 c0 c1 c2 c3 c4 hb14
    go_wp2_with fail
    have hlX : SW w4 A n c l := SW.then_ hl1 hb14
    refine (hget_any _ (hlX.alloc _) (Nat.le_refl _)).mono ?_
    rintro e w6 ⟨rfl, hb6⟩
    rw [hE2.out, hH2.out]
    obtain ⟨p0, p1, p2, p3, p4⟩ := hpr.out
    go_wp2_with fail
    refine (hput_ok V2 F2 S2 O2 L2 _ p0.1 p0.2 p1.1 p1.2 p3.1 p3.2 p4.1 p4.2 hC2.out).mono ?_
    rintro e w7 ⟨v7, rfl, hown7, hb7⟩
    rw [hP2.out] at hown7
    obtain ⟨A7, c7, rfl, sw7⟩ := SW.of_own hown7
    have hl7 : BS w7 w7.heap.size A n c l := SW.then_ (SW.alloc (SW.then_ (SW.alloc hlX _) hb6) _) hb7
    have s1 := str_drawn sw7
    have s2 := str_drawn (hl7.upto (k := 9) h9)
    go_wp2_with fail
    go_quiet (fail)
    go_wp2_with fail
    go_ret
    refine ⟨rfl, below_drewN ?_ _⟩
    (repeat' (first | exact Below.refl _ _ | assumption | refine below_new ?_ _ | refine Below.drew ?_ | refine below_then ?_ (by assumption)))
set_option maxHeartbeats 1600000 in
theorem back_ok_no {A : Option Addr} {n c : Nat} {l : List UInt8} (V F S O L : Int) (w : World) (hl : BS w w.heap.size A n c l) (hn : n ≤ 140737488355319) (hV0 : 0 ≤ V) (hV1 : V < 256) (hF0 : 0 ≤ F) (hF1 : F < 256) (hS0 : -32768 ≤ S) (hS1 : S < 32768) (hO0 : 0 ≤ O) (hO1 : O < 256) (hL0 : 0 ≤ L) (hL1 : L < 4294967296) (h : chk V F O L = 0) (h2 : ¬ getE l = 0) :
    Calls Try.prog 5 #[hdr V F S O L, .slice A n c] w fun e w' => e = .returned (.bool true) ∧ Below w.heap.size w w' := by
  have hlen := hl.len
  have hcap := hl.cap
  have hmx := hl.max
  unfold maxLen at hmx
  obtain ⟨x2, hx2⟩ : ∃ x, getE l = x := ⟨_, rfl⟩
  have hE2 := Lib.hid hx2
  have hH2 := Lib.hid (getH_no h2)
  rw [hx2] at h2
  clear hx2
  go_enter Try.func5, Try.ntmps5
  go_wp2_with fail
  refine (awake5 _).mono ?_
  rintro e w1 ⟨rfl, hb1⟩
  obtain ⟨hlt1, c0, c1, c2, c3, c4, hb01⟩ := box_kept hb1
  have hl1 : SW w1 A n c l := SW.then_ (SW.alloc hl _) hb1
  clear hb1
  go_wp2_with fail
  refine (hput_ok V F S O L _ hV0 hV1 hF0 hF1 hO0 hO1 hL0 hL1 h).mono ?_
  rintro e w2 ⟨v, rfl, hown, hb2⟩
  have hl2 := hl1.then_ hb2
  obtain ⟨i0, hi, hz0, hz1, hz2⟩ := info_parts info_byte
  have hob := own_blk hown
  obtain ⟨pE, pH⟩ := put_get hV0 hV1 hF0 hF1 hS0 hS1 hO0 hO1 hL0 hL1 l h
  have HPE := Lib.hid pE
  have HPH := Lib.hid pH
  clear pE pH
  obtain ⟨A1, n1, hv1, sw1⟩ := SW.of_own hown
  rw [hv1] at hown hob ⊢
  clear hv1
  go_wp2_with (at_builtin; refine wpList_append_bs _ rfl _ _ 27 rfl w1.heap.size 5 i0 (.int .u8 0) Try.underlying27 hi hz0 hz1 hz2 rfl _ 9 _ rfl hown rfl hl2 ?_ ?_ ?_)
  · omega
  · exact hb2.size
  · intro v3 w3 hown3 hg3 hat3
    rw [← bv_append] at hown3
    have hb3 : Below w1.heap.size w1 w3 := hb2.grown hg3 hb2.size hob
    obtain ⟨A3, c3', rfl, sw3⟩ := SW.of_own hown3
    go_wp2_with fail
    refine (hget_any _ sw3 (Nat.le_refl _)).mono ?_
    rintro e w4 ⟨rfl, hb4⟩
    have hb14 : Below w1.heap.size w1 w4 := below_then hb3 hb4
    rw [HPE.out, HPH.out]
    obtain ⟨hlt4, d0, d1, d2, d3, d4⟩ := put_s hlt1 c0 c1 c2 c3 c4 hb14
    go_wp2_with fail
    have hlX : SW w4 A n c l := SW.then_ hl1 hb14
    refine (hget_any _ (hlX.alloc _) (Nat.le_refl _)).mono ?_
    rintro e w6 ⟨rfl, hb6⟩
    rw [hE2.out, hH2.out]
    go_wp2_with fail
    go_ret
    refine ⟨rfl, ?_⟩
    (repeat' (first | exact Below.refl _ _ | assumption | refine below_new ?_ _ | refine Below.drew ?_ | refine below_then ?_ (by assumption)))
set_option maxHeartbeats 1600000 in
theorem back_no_ok {A : Option Addr} {n c : Nat} {l : List UInt8} (V F S O L : Int) (w : World) (hl : BS w w.heap.size A n c l) (hn : n ≤ 140737488355319) (hV0 : 0 ≤ V) (hV1 : V < 256) (hF0 : 0 ≤ F) (hF1 : F < 256) (hS0 : -32768 ≤ S) (hS1 : S < 32768) (hO0 : 0 ≤ O) (hO1 : O < 256) (hL0 : 0 ≤ L) (hL1 : L < 4294967296) (h : ¬ chk V F O L = 0) (h2 : getE l = 0) :
    Calls Try.prog 5 #[hdr V F S O L, .slice A n c] w fun e w' => e = .returned (.bool true) ∧ Below w.heap.size w w' := by
  have hlen := hl.len
  have hcap := hl.cap
  have hmx := hl.max
  unfold maxLen at hmx
  obtain ⟨h9', hC2', hH2'⟩ := getE_0 h2
  have h9 : 9 ≤ n := by omega
  have hP2' := get_put l h9'
  have hpr' : ((0 ≤ bI l 0 ∧ bI l 0 < 256) ∧ (0 ≤ bI l 1 ∧ bI l 1 < 256) ∧ (-32768 ≤ hS l ∧ hS l < 32768) ∧ (0 ≤ bI l 4 ∧ bI l 4 < 256) ∧ (0 ≤ hL l ∧ hL l < 4294967296)) := ⟨⟨bI_lo l 0, bI_hi l 0⟩, ⟨bI_lo l 1, bI_hi l 1⟩, hS_rng l, ⟨bI_lo l 4, bI_hi l 4⟩, ⟨hL_lo l, hL_hi l⟩⟩
  obtain ⟨V2, hV2⟩ : ∃ x, bI l 0 = x := ⟨_, rfl⟩
  obtain ⟨F2, hF2⟩ : ∃ x, bI l 1 = x := ⟨_, rfl⟩
  obtain ⟨S2, hS2⟩ : ∃ x, hS l = x := ⟨_, rfl⟩
  obtain ⟨O2, hO2⟩ : ∃ x, bI l 4 = x := ⟨_, rfl⟩
  obtain ⟨L2, hL2⟩ : ∃ x, hL l = x := ⟨_, rfl⟩
  rw [hV2, hF2, hO2, hL2] at hC2'
  rw [hV2, hF2, hS2, hO2, hL2] at hH2' hP2' hpr'
  have hE2 := Lib.hid h2
  have hC2 := Lib.hid hC2'
  have hH2 := Lib.hid hH2'
  have hP2 := Lib.hid hP2'
  have hpr := Lib.hid hpr'
  clear h2 h9' hC2' hH2' hP2' hpr' hV2 hF2 hS2 hO2 hL2
  go_enter Try.func5, Try.ntmps5
  go_wp2_with fail
  refine (awake5 _).mono ?_
  rintro e w1 ⟨rfl, hb1⟩
  obtain ⟨hlt1, c0, c1, c2, c3, c4, hb01⟩ := box_kept hb1
  have hl1 : SW w1 A n c l := SW.then_ (SW.alloc hl _) hb1
  clear hb1
  go_wp2_with fail
  obtain ⟨x, hx⟩ : ∃ x, chk V F O L = x := ⟨_, rfl⟩
  have hx0 : ¬ x = 0 := hx ▸ h
  refine (hput_bad V F S O L _ hF0 hF1 h).mono ?_
  rintro e w2 ⟨rfl, hb2⟩
  rw [hx]
  go_wp2_with fail
  have hlX : SW w2 A n c l := SW.then_ hl1 hb2
  refine (hget_any _ (hlX) (Nat.le_refl _)).mono ?_
  rintro e w6 ⟨rfl, hb6⟩
  rw [hE2.out, hH2.out]
  obtain ⟨p0, p1, p2, p3, p4⟩ := hpr.out
  go_wp2_with fail
  refine (hput_ok V2 F2 S2 O2 L2 _ p0.1 p0.2 p1.1 p1.2 p3.1 p3.2 p4.1 p4.2 hC2.out).mono ?_
  rintro e w7 ⟨v7, rfl, hown7, hb7⟩
  rw [hP2.out] at hown7
  obtain ⟨A7, c7, rfl, sw7⟩ := SW.of_own hown7
  have hl7 : BS w7 w7.heap.size A n c l := SW.then_ (SW.alloc (SW.then_ hlX hb6) _) hb7
  have s1 := str_drawn sw7
  have s2 := str_drawn (hl7.upto (k := 9) h9)
  go_wp2_with fail
  go_quiet (fail)
  go_wp2_with fail
  go_ret
  refine ⟨rfl, below_drewN ?_ _⟩
  (repeat' (first | exact Below.refl _ _ | assumption | refine below_new ?_ _ | refine Below.drew ?_ | refine below_then ?_ (by assumption)))
set_option maxHeartbeats 1600000 in
theorem back_no_no {A : Option Addr} {n c : Nat} {l : List UInt8} (V F S O L : Int) (w : World) (hl : BS w w.heap.size A n c l) (hn : n ≤ 140737488355319) (hV0 : 0 ≤ V) (hV1 : V < 256) (hF0 : 0 ≤ F) (hF1 : F < 256) (hS0 : -32768 ≤ S) (hS1 : S < 32768) (hO0 : 0 ≤ O) (hO1 : O < 256) (hL0 : 0 ≤ L) (hL1 : L < 4294967296) (h : ¬ chk V F O L = 0) (h2 : ¬ getE l = 0) :
    Calls Try.prog 5 #[hdr V F S O L, .slice A n c] w fun e w' => e = .returned (.bool true) ∧ Below w.heap.size w w' := by
  have hlen := hl.len
  have hcap := hl.cap
  have hmx := hl.max
  unfold maxLen at hmx
  obtain ⟨x2, hx2⟩ : ∃ x, getE l = x := ⟨_, rfl⟩
  have hE2 := Lib.hid hx2
  have hH2 := Lib.hid (getH_no h2)
  rw [hx2] at h2
  clear hx2
  go_enter Try.func5, Try.ntmps5
  go_wp2_with fail
  refine (awake5 _).mono ?_
  rintro e w1 ⟨rfl, hb1⟩
  obtain ⟨hlt1, c0, c1, c2, c3, c4, hb01⟩ := box_kept hb1
  have hl1 : SW w1 A n c l := SW.then_ (SW.alloc hl _) hb1
  clear hb1
  go_wp2_with fail
  obtain ⟨x, hx⟩ : ∃ x, chk V F O L = x := ⟨_, rfl⟩
  have hx0 : ¬ x = 0 := hx ▸ h
  refine (hput_bad V F S O L _ hF0 hF1 h).mono ?_
  rintro e w2 ⟨rfl, hb2⟩
  rw [hx]
  go_wp2_with fail
  have hlX : SW w2 A n c l := SW.then_ hl1 hb2
  refine (hget_any _ (hlX) (Nat.le_refl _)).mono ?_
  rintro e w6 ⟨rfl, hb6⟩
  rw [hE2.out, hH2.out]
  go_wp2_with fail
  go_ret
  refine ⟨rfl, ?_⟩
  (repeat' (first | exact Below.refl _ _ | assumption | refine below_new ?_ _ | refine Below.drew ?_ | refine below_then ?_ (by assumption)))
theorem back_any {A : Option Addr} {n c : Nat} {l : List UInt8} (V F S O L : Int) (w : World) (hl : BS w w.heap.size A n c l) (hc : c ≤ 140737488351232) (hV0 : 0 ≤ V) (hV1 : V < 256) (hF0 : 0 ≤ F) (hF1 : F < 256) (hS0 : -32768 ≤ S) (hS1 : S < 32768) (hO0 : 0 ≤ O) (hO1 : O < 256) (hL0 : 0 ≤ L) (hL1 : L < 4294967296) :
    Calls Try.prog 5 #[hdr V F S O L, .slice A n c] w fun e w' => e = .returned (.bool true) ∧ Below w.heap.size w w' := by
  have hcap := hl.cap
  by_cases h : chk V F O L = 0
  · by_cases h2 : getE l = 0
    · exact back_ok_ok V F S O L w hl (by omega) hV0 hV1 hF0 hF1 hS0 hS1 hO0 hO1 hL0 hL1 h h2
    · exact back_ok_no V F S O L w hl (by omega) hV0 hV1 hF0 hF1 hS0 hS1 hO0 hO1 hL0 hL1 h h2
  · by_cases h2 : getE l = 0
    · exact back_no_ok V F S O L w hl (by omega) hV0 hV1 hF0 hF1 hS0 hS1 hO0 hO1 hL0 hL1 h h2
    · exact back_no_no V F S O L w hl (by omega) hV0 hV1 hF0 hF1 hS0 hS1 hO0 hO1 hL0 hL1 h h2
end Go.Proofs.Ytiehhoonfneccaa
