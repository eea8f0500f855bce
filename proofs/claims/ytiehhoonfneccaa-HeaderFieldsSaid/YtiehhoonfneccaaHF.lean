/- HeaderFields: the walk. No condition but that the numbers are of their kinds. -/
import Derived.Test.YtiehhoonfneccaaHH
import Derived.Test.YtiehhoonfneccaaHJ
namespace Go.Proofs.Ytiehhoonfneccaa
open Go.RowKit
/-- Two boxes, one behind the other, once more has been made. -/
theorem two_s {w w' : World} {t u : TypeId} {a b c d e a' b' c' d' e' : Value} (hb : Below ((w.alloc (.cells #[a, b, c, d, e] t)).alloc (.cells #[a', b', c', d', e'] u)).heap.size ((w.alloc (.cells #[a, b, c, d, e] t)).alloc (.cells #[a', b', c', d', e'] u)) w') :
    (w.heap.size < w'.heap.size ∧ w'.cell? ⟨w.heap.size, 0, none⟩ = some a ∧ w'.cell? ⟨w.heap.size, 1, none⟩ = some b ∧ w'.cell? ⟨w.heap.size, 2, none⟩ = some c ∧ w'.cell? ⟨w.heap.size, 3, none⟩ = some d ∧ w'.cell? ⟨w.heap.size, 4, none⟩ = some e) ∧
    (w.heap.size + 1 < w'.heap.size ∧ w'.cell? ⟨w.heap.size + 1, 0, none⟩ = some a' ∧ w'.cell? ⟨w.heap.size + 1, 1, none⟩ = some b' ∧ w'.cell? ⟨w.heap.size + 1, 2, none⟩ = some c' ∧ w'.cell? ⟨w.heap.size + 1, 3, none⟩ = some d' ∧ w'.cell? ⟨w.heap.size + 1, 4, none⟩ = some e') := by
  have h := gets_s (w1 := w) (w2 := w.alloc (.cells #[a, b, c, d, e] t)) (Below.refl _ _) hb
  simpa using h
theorem field_bytes {V F S O L : Int} (hV0 : 0 ≤ V) (hV1 : V < 256) (hF0 : 0 ≤ F) (hF1 : F < 256) (hS0 : -32768 ≤ S) (hS1 : S < 32768) (hO0 : 0 ≤ O) (hO1 : O < 256) (hL0 : 0 ≤ L) (hL1 : L < 4294967296) {w : World} {A : Option Addr} {c : Nat} (h : SW w A 9 c (putH V F S O L)) :
    ∃ b o X Y, A = some ⟨b, o, none⟩ ∧ X = (⟨(putB (S % 65536) 2).toArray⟩ : ByteArray) ∧ Y = (⟨(putB L 4).toArray⟩ : ByteArray) ∧ 9 ≤ c ∧ c ≤ 9223372036854775807 ∧ w.cell? ⟨b, o, none⟩ = some (.int .u8 V) ∧ w.cell? ⟨b, o + 1, none⟩ = some (.int .u8 F) ∧ w.cell? ⟨b, o + 4, none⟩ = some (.int .u8 O) ∧
      (∀ k, (convert 27 9 (.slice (some ⟨b, o + 2, none⟩) 2 (c - 2))).run Try.prog (w.drewN k) = .ok (.string X) (w.drewN k)) ∧ (∀ k, (convert 27 9 (.slice (some ⟨b, o + 5, none⟩) 4 (c - 5))).run Try.prog (w.drewN k) = .ok (.string Y) (w.drewN k)) := by
  have hcap := BS.cap h
  have hmx := BS.max h
  unfold maxLen at hmx
  obtain ⟨b, o, rfl, _, hcell⟩ := BS.at_ h (by decide)
  have hl := putH_len V F S O L
  obtain ⟨b0, b1, _, b4, _⟩ := put_bytes hV0 hV1 hF0 hF1 hS0 hS1 hO0 hO1 hL0 hL1 []
  rw [List.append_nil] at b0 b1 b4
  have e0 := hcell 0 (by omega)
  have e1 := hcell 1 (by omega)
  have e4 := hcell 4 (by omega)
  rw [bI_at, b0] at e0
  rw [bI_at, b1] at e1
  rw [bI_at, b4] at e4
  have f2 := (BS.from_ h (k := 2) (by omega)).upto (k := 2) (by omega)
  have f5 := BS.from_ h (k := 5) (by omega)
  rw [if_neg (by omega)] at f2 f5
  simp only [Option.map_some, add_none] at f2 f5
  have p2 : ((putH V F S O L).drop 2).take 2 = putB (S % 65536) 2 := by
    show (putB (S % 65536) 2 ++ _).take 2 = _
    rw [List.take_append_of_le_length (by rw [putB_len]; omega), List.take_of_length_le (by rw [putB_len]; omega)]
  have p5 : (putH V F S O L).drop 5 = putB L 4 := by
    show (putB (S % 65536) 2 ++ ([UInt8.ofNat O.toNat] ++ putB L 4)).drop 3 = _
    rw [List.drop_append, List.drop_of_length_le (by rw [putB_len]; omega), putB_len]
    rfl
  rw [p2] at f2
  rw [p5] at f5
  exact ⟨b, o, _, _, rfl, rfl, rfl, hcap, hmx, e0, e1, e4, str_drawn f2, str_drawn f5⟩
theorem putB2_inj {S S2 : Int} (h0 : -32768 ≤ S) (h1 : S < 32768) (h2 : -32768 ≤ S2) (h3 : S2 < 32768) (h : putB (S % 65536) 2 = putB (S2 % 65536) 2) : S = S2 := by
  have e : ∀ x : Int, bv (putB x 2) = [.int .u8 (x / 256 % 256), .int .u8 (x % 256)] := fun x => by simp [bv, putB, List.range_succ, dg_val, dig]
  have := congrArg bv h
  rw [e, e] at this
  simp only [List.cons.injEq, Value.int.injEq, true_and, and_true] at this
  omega
theorem putB4_inj {L L2 : Int} (h0 : 0 ≤ L) (h1 : L < 4294967296) (h2 : 0 ≤ L2) (h3 : L2 < 4294967296) (h : putB L 4 = putB L2 4) : L = L2 := by
  have e : ∀ x : Int, bv (putB x 4) = [.int .u8 (x / 16777216 % 256), .int .u8 (x / 65536 % 256), .int .u8 (x / 256 % 256), .int .u8 (x % 256)] := fun x => by simp [bv, putB, List.range_succ, dg_val, dig]
  have := congrArg bv h
  rw [e, e] at this
  simp only [List.cons.injEq, Value.int.injEq, true_and, and_true] at this
  omega
theorem ba_ne {l m : List UInt8} (h : ¬ l = m) : ¬ (⟨l.toArray⟩ : ByteArray) = ⟨m.toArray⟩ := by
  intro e
  injection e with e
  exact h (by simpa using e)
theorem ba_eq {l m : List UInt8} {a b : Int} (h : ¬ l = m) (h2 : ¬ a = b) : ((⟨l.toArray⟩ : ByteArray).toList == (⟨m.toArray⟩ : ByteArray).toList) = (a == b) := by
  have t : ∀ x : List UInt8, (⟨x.toArray⟩ : ByteArray).toList = x := fun x => by simp
  rw [t, t, beq_eq_false_iff_ne.2 h, beq_eq_false_iff_ne.2 h2]
section
variable {V F S O L V2 F2 S2 O2 L2 : Int}
set_option maxHeartbeats 1600000 in
theorem fields_a_bad (w : World) (hV0 : 0 ≤ V) (hV1 : V < 256) (hF0 : 0 ≤ F) (hF1 : F < 256) (hS0 : -32768 ≤ S) (hS1 : S < 32768) (hO0 : 0 ≤ O) (hO1 : O < 256) (hL0 : 0 ≤ L) (hL1 : L < 4294967296) (hV02 : 0 ≤ V2) (hV12 : V2 < 256) (hF02 : 0 ≤ F2) (hF12 : F2 < 256) (hS02 : -32768 ≤ S2) (hS12 : S2 < 32768) (hO02 : 0 ≤ O2) (hO12 : O2 < 256) (hL02 : 0 ≤ L2) (hL12 : L2 < 4294967296) (h : ¬ chk V F O L = 0) (h2 : chk V2 F2 O2 L2 = 0) :
    Calls Try.prog 6 #[hdr V F S O L, hdr V2 F2 S2 O2 L2] w fun e w' => e = .returned (.bool true) ∧ Below w.heap.size w w' := by
  obtain ⟨x, hx⟩ : ∃ x, chk V F O L = x := ⟨_, rfl⟩
  have hx0 : ¬ x = 0 := hx ▸ h
  go_enter Try.func6, Try.ntmps6
  go_wp2_with fail
  refine (awake5 _).mono ?_
  rintro e w1 ⟨rfl, hb1⟩
  obtain ⟨⟨x5, x0, x1, x2, x3, x4⟩, ⟨y5, y0, y1, y2, y3, y4⟩⟩ := two_s hb1
  go_wp2_with fail
  have hbt1 := hb1
  refine (hput_bad V F S O L _ hF0 hF1 h).mono ?_
  rintro e w2 ⟨rfl, hb2⟩
  rw [hx]
  have hbt2 := below_then hbt1 hb2
  clear x0 x1 x2 x3 x4 x5 y0 y1 y2 y3 y4 y5
  obtain ⟨⟨x5, x0, x1, x2, x3, x4⟩, ⟨y5, y0, y1, y2, y3, y4⟩⟩ := two_s hbt2
  go_wp2_with fail
  refine (hput_ok V2 F2 S2 O2 L2 _ hV02 hV12 hF02 hF12 hO02 hO12 hL02 hL12 h2).mono ?_
  rintro e w3 ⟨v3, rfl, hown3, hb3⟩
  obtain ⟨A3, n3, rfl, sw3⟩ := SW.of_own hown3
  clear hown3
  have hbt3 := below_then hbt2 hb3
  clear x0 x1 x2 x3 x4 x5 y0 y1 y2 y3 y4 y5
  obtain ⟨⟨x5, x0, x1, x2, x3, x4⟩, ⟨y5, y0, y1, y2, y3, y4⟩⟩ := two_s hbt3
  go_wp2_with fail
  refine (check_any V F S O L _ hF0 hF1).mono ?_
  rintro e w4 ⟨rfl, hb4⟩
  rw [hx]
  have hbt4 := below_then hbt3 hb4
  clear x0 x1 x2 x3 x4 x5 y0 y1 y2 y3 y4 y5
  obtain ⟨⟨x5, x0, x1, x2, x3, x4⟩, ⟨y5, y0, y1, y2, y3, y4⟩⟩ := two_s hbt4
  go_wp2_with fail
  go_ret
  refine ⟨rfl, ?_⟩
  (repeat' (first | exact Below.refl _ _ | assumption | refine below_new ?_ _ | refine Below.drew ?_ | refine below_then ?_ (by assumption)))
set_option maxHeartbeats 1600000 in
theorem fields_b_bad (w : World) (hV0 : 0 ≤ V) (hV1 : V < 256) (hF0 : 0 ≤ F) (hF1 : F < 256) (hS0 : -32768 ≤ S) (hS1 : S < 32768) (hO0 : 0 ≤ O) (hO1 : O < 256) (hL0 : 0 ≤ L) (hL1 : L < 4294967296) (hV02 : 0 ≤ V2) (hV12 : V2 < 256) (hF02 : 0 ≤ F2) (hF12 : F2 < 256) (hS02 : -32768 ≤ S2) (hS12 : S2 < 32768) (hO02 : 0 ≤ O2) (hO12 : O2 < 256) (hL02 : 0 ≤ L2) (hL12 : L2 < 4294967296) (h : chk V F O L = 0) (h2 : ¬ chk V2 F2 O2 L2 = 0) :
    Calls Try.prog 6 #[hdr V F S O L, hdr V2 F2 S2 O2 L2] w fun e w' => e = .returned (.bool true) ∧ Below w.heap.size w w' := by
  obtain ⟨z, hx2⟩ : ∃ z, chk V2 F2 O2 L2 = z := ⟨_, rfl⟩
  have hz0 : ¬ z = 0 := hx2 ▸ h2
  go_enter Try.func6, Try.ntmps6
  go_wp2_with fail
  refine (awake5 _).mono ?_
  rintro e w1 ⟨rfl, hb1⟩
  obtain ⟨⟨x5, x0, x1, x2, x3, x4⟩, ⟨y5, y0, y1, y2, y3, y4⟩⟩ := two_s hb1
  go_wp2_with fail
  have hbt1 := hb1
  refine (hput_ok V F S O L _ hV0 hV1 hF0 hF1 hO0 hO1 hL0 hL1 h).mono ?_
  rintro e w2 ⟨v2, rfl, hown2, hb2⟩
  obtain ⟨A2, n2, rfl, sw2⟩ := SW.of_own hown2
  clear hown2
  have hbt2 := below_then hbt1 hb2
  clear x0 x1 x2 x3 x4 x5 y0 y1 y2 y3 y4 y5
  obtain ⟨⟨x5, x0, x1, x2, x3, x4⟩, ⟨y5, y0, y1, y2, y3, y4⟩⟩ := two_s hbt2
  go_wp2_with fail
  refine (hput_bad V2 F2 S2 O2 L2 _ hF02 hF12 h2).mono ?_
  rintro e w3 ⟨rfl, hb3⟩
  rw [hx2]
  have hbt3 := below_then hbt2 hb3
  clear x0 x1 x2 x3 x4 x5 y0 y1 y2 y3 y4 y5
  obtain ⟨⟨x5, x0, x1, x2, x3, x4⟩, ⟨y5, y0, y1, y2, y3, y4⟩⟩ := two_s hbt3
  go_wp2_with fail
  refine (check_any V F S O L _ hF0 hF1).mono ?_
  rintro e w4 ⟨rfl, hb4⟩
  rw [h]
  have hbt4 := below_then hbt3 hb4
  clear x0 x1 x2 x3 x4 x5 y0 y1 y2 y3 y4 y5
  obtain ⟨⟨x5, x0, x1, x2, x3, x4⟩, ⟨y5, y0, y1, y2, y3, y4⟩⟩ := two_s hbt4
  go_wp2_with fail
  refine (check_any V2 F2 S2 O2 L2 _ hF02 hF12).mono ?_
  rintro e w5 ⟨rfl, hb5⟩
  rw [hx2]
  go_wp2_with fail
  go_ret
  refine ⟨rfl, ?_⟩
  (repeat' (first | exact Below.refl _ _ | assumption | refine below_new ?_ _ | refine Below.drew ?_ | refine below_then ?_ (by assumption)))
set_option maxHeartbeats 1600000 in
theorem fields_ab_bad (w : World) (hV0 : 0 ≤ V) (hV1 : V < 256) (hF0 : 0 ≤ F) (hF1 : F < 256) (hS0 : -32768 ≤ S) (hS1 : S < 32768) (hO0 : 0 ≤ O) (hO1 : O < 256) (hL0 : 0 ≤ L) (hL1 : L < 4294967296) (hV02 : 0 ≤ V2) (hV12 : V2 < 256) (hF02 : 0 ≤ F2) (hF12 : F2 < 256) (hS02 : -32768 ≤ S2) (hS12 : S2 < 32768) (hO02 : 0 ≤ O2) (hO12 : O2 < 256) (hL02 : 0 ≤ L2) (hL12 : L2 < 4294967296) (h : ¬ chk V F O L = 0) (h2 : ¬ chk V2 F2 O2 L2 = 0) :
    Calls Try.prog 6 #[hdr V F S O L, hdr V2 F2 S2 O2 L2] w fun e w' => e = .returned (.bool true) ∧ Below w.heap.size w w' := by
  obtain ⟨x, hx⟩ : ∃ x, chk V F O L = x := ⟨_, rfl⟩
  have hx0 : ¬ x = 0 := hx ▸ h
  obtain ⟨z, hx2⟩ : ∃ z, chk V2 F2 O2 L2 = z := ⟨_, rfl⟩
  have hz0 : ¬ z = 0 := hx2 ▸ h2
  go_enter Try.func6, Try.ntmps6
  go_wp2_with fail
  refine (awake5 _).mono ?_
  rintro e w1 ⟨rfl, hb1⟩
  obtain ⟨⟨x5, x0, x1, x2, x3, x4⟩, ⟨y5, y0, y1, y2, y3, y4⟩⟩ := two_s hb1
  go_wp2_with fail
  have hbt1 := hb1
  refine (hput_bad V F S O L _ hF0 hF1 h).mono ?_
  rintro e w2 ⟨rfl, hb2⟩
  rw [hx]
  have hbt2 := below_then hbt1 hb2
  clear x0 x1 x2 x3 x4 x5 y0 y1 y2 y3 y4 y5
  obtain ⟨⟨x5, x0, x1, x2, x3, x4⟩, ⟨y5, y0, y1, y2, y3, y4⟩⟩ := two_s hbt2
  go_wp2_with fail
  refine (hput_bad V2 F2 S2 O2 L2 _ hF02 hF12 h2).mono ?_
  rintro e w3 ⟨rfl, hb3⟩
  rw [hx2]
  have hbt3 := below_then hbt2 hb3
  clear x0 x1 x2 x3 x4 x5 y0 y1 y2 y3 y4 y5
  obtain ⟨⟨x5, x0, x1, x2, x3, x4⟩, ⟨y5, y0, y1, y2, y3, y4⟩⟩ := two_s hbt3
  go_wp2_with fail
  refine (check_any V F S O L _ hF0 hF1).mono ?_
  rintro e w4 ⟨rfl, hb4⟩
  rw [hx]
  have hbt4 := below_then hbt3 hb4
  clear x0 x1 x2 x3 x4 x5 y0 y1 y2 y3 y4 y5
  obtain ⟨⟨x5, x0, x1, x2, x3, x4⟩, ⟨y5, y0, y1, y2, y3, y4⟩⟩ := two_s hbt4
  go_wp2_with fail
  go_ret
  refine ⟨rfl, ?_⟩
  (repeat' (first | exact Below.refl _ _ | assumption | refine below_new ?_ _ | refine Below.drew ?_ | refine below_then ?_ (by assumption)))
end
end Go.Proofs.Ytiehhoonfneccaa
