/- HeaderPuts and HeaderKinds: the walks. No condition but that the numbers are of their kinds. -/
import Derived.Test.YtiehhoonfneccaaHW
namespace Go.Proofs.Ytiehhoonfneccaa
open Go.RowKit
/-- What a region over a header's box and two byte slices holds. -/
theorem puts_s {w w1 w' : World} {V F S O L : Int} {A1 A2 : Option Addr} {n1 n2 c1 c2 : Nat} {l1 l2 : List UInt8} (hlt : w.heap.size < w1.heap.size) (k0 : w1.cell? ⟨w.heap.size, 0, none⟩ = some (.int .u8 V)) (k1 : w1.cell? ⟨w.heap.size, 1, none⟩ = some (.int .u8 F)) (k2 : w1.cell? ⟨w.heap.size, 2, none⟩ = some (.int .i16 S)) (k3 : w1.cell? ⟨w.heap.size, 3, none⟩ = some (.int .u8 O)) (k4 : w1.cell? ⟨w.heap.size, 4, none⟩ = some (.int .u32 L))
    (s1 : SW w1 A1 n1 c1 l1) (s2 : SW w1 A2 n2 c2 l2) (hb : Below w1.heap.size w1 w') :
    w.heap.size < w'.heap.size ∧ w'.cell? ⟨w.heap.size, 0, none⟩ = some (.int .u8 V) ∧ w'.cell? ⟨w.heap.size, 1, none⟩ = some (.int .u8 F) ∧ w'.cell? ⟨w.heap.size, 2, none⟩ = some (.int .i16 S) ∧ w'.cell? ⟨w.heap.size, 3, none⟩ = some (.int .u8 O) ∧ w'.cell? ⟨w.heap.size, 4, none⟩ = some (.int .u32 L) ∧
    (convert 27 9 (.slice A1 n1 c1)).run Try.prog w' = .ok (.string ⟨l1.toArray⟩) w' ∧ (convert 27 9 (.slice A2 n2 c2)).run Try.prog w' = .ok (.string ⟨l2.toArray⟩) w' := by
  obtain ⟨h0, h1, h2, h3, h4, h5⟩ := put_s hlt k0 k1 k2 k3 k4 hb
  exact ⟨h0, h1, h2, h3, h4, h5, str_now (s1.then_ hb), str_now (s2.then_ hb)⟩
set_option maxHeartbeats 1600000 in
theorem puts_ok (V F S O L : Int) (w : World) (hV0 : 0 ≤ V) (hV1 : V < 256) (hF0 : 0 ≤ F) (hF1 : F < 256) (hS0 : -32768 ≤ S) (hS1 : S < 32768) (hO0 : 0 ≤ O) (hO1 : O < 256) (hL0 : 0 ≤ L) (hL1 : L < 4294967296) (h : chk V F O L = 0) :
    Calls Try.prog 3 #[hdr V F S O L] w fun e w' => e = .returned (.bool true) ∧ Below w.heap.size w w' := by
  go_enter Try.func3, Try.ntmps3
  go_wp2_with fail
  refine (awake5 _).mono ?_
  rintro e w1 ⟨rfl, hb1⟩
  obtain ⟨hlt1, c0, c1, c2, c3, c4, hb01⟩ := box_kept hb1
  clear hb1
  go_wp2_with fail
  refine (hput_ok V F S O L _ hV0 hV1 hF0 hF1 hO0 hO1 hL0 hL1 h).mono ?_
  rintro e w2 ⟨v, rfl, hown, hb2⟩
  obtain ⟨A1, n1, rfl, sw1⟩ := SW.of_own hown
  clear hown
  obtain ⟨hlt2, d0, d1, d2, d3, d4⟩ := put_s hlt1 c0 c1 c2 c3 c4 hb2
  go_wp2_with fail
  refine (model_any V F S O L _).mono ?_
  rintro e w3 ⟨rfl, hb3⟩
  go_wp2_with fail
  refine (rput_ok V F S O L _ hV0 hV1 hF0 hF1 hS0 hS1 hO0 hO1 hL0 hL1 h).mono ?_
  rintro e w4 ⟨A2, n2, rfl, sw2, hb4⟩
  have hb24 : Below w2.heap.size w2 w4 := below_then hb3 hb4
  have sw1' := sw1.then_ hb24
  obtain ⟨hlt3, e0, e1, e2, e3, e4⟩ := put_s hlt2 d0 d1 d2 d3 d4 hb24
  go_wp2_with fail
  go_region_held3 (fun w' => w.heap.size < w'.heap.size ∧ w'.cell? ⟨w.heap.size, 0, none⟩ = some (.int .u8 V) ∧ w'.cell? ⟨w.heap.size, 1, none⟩ = some (.int .u8 F) ∧ w'.cell? ⟨w.heap.size, 2, none⟩ = some (.int .i16 S) ∧ w'.cell? ⟨w.heap.size, 3, none⟩ = some (.int .u8 O) ∧ w'.cell? ⟨w.heap.size, 4, none⟩ = some (.int .u32 L) ∧
      (convert 27 9 (.slice A1 9 n1)).run Try.prog w' = .ok (.string ⟨(putH V F S O L).toArray⟩) w' ∧ (convert 27 9 (.slice A2 9 n2)).run Try.prog w' = .ok (.string ⟨(putH V F S O L).toArray⟩) w')
    (first | (refine puts_s hlt3 e0 e1 e2 e3 e4 sw1' sw2 ?_; (repeat' (first | exact Below.refl _ _ | assumption | refine below_new ?_ _ | refine Below.drew ?_ | refine below_then ?_ (by assumption)))))
    (first | (go_at_call 19; refine (check_any V F S O L _ hF0 hF1).mono ?_; rintro e w5 ⟨rfl, hbl⟩; rw [h]) | (go_at_call 18; refine (model_any V F S O L _).mono ?_; rintro e w5 ⟨rfl, hbl⟩) | (go_at_call 20; refine (rcheck_any V F S O L _ hF0 hF1).mono ?_; rintro e w5 ⟨rfl, hbl⟩; rw [h]))
  go_wp2_with fail
  go_ret
  refine ⟨rfl, ?_⟩
  (repeat' (first | exact Below.refl _ _ | assumption | refine below_new ?_ _ | refine Below.drew ?_ | refine below_then ?_ (by assumption)))
set_option maxHeartbeats 1600000 in
theorem puts_bad (V F S O L : Int) (w : World) (hV0 : 0 ≤ V) (hV1 : V < 256) (hF0 : 0 ≤ F) (hF1 : F < 256) (hS0 : -32768 ≤ S) (hS1 : S < 32768) (hO0 : 0 ≤ O) (hO1 : O < 256) (hL0 : 0 ≤ L) (hL1 : L < 4294967296) (h : ¬ chk V F O L = 0) :
    Calls Try.prog 3 #[hdr V F S O L] w fun e w' => e = .returned (.bool true) ∧ Below w.heap.size w w' := by
  obtain ⟨x, hx⟩ : ∃ x, chk V F O L = x := ⟨_, rfl⟩
  have hx0 : ¬ x = 0 := hx ▸ h
  go_enter Try.func3, Try.ntmps3
  go_wp2_with fail
  refine (awake5 _).mono ?_
  rintro e w1 ⟨rfl, hb1⟩
  obtain ⟨hlt1, c0, c1, c2, c3, c4, hb01⟩ := box_kept hb1
  clear hb1
  go_wp2_with fail
  refine (hput_bad V F S O L _ hF0 hF1 h).mono ?_
  rintro e w2 ⟨rfl, hb2⟩
  have sw1 := SW.nil w2
  rw [hx]
  obtain ⟨hlt2, d0, d1, d2, d3, d4⟩ := put_s hlt1 c0 c1 c2 c3 c4 hb2
  go_wp2_with fail
  refine (model_any V F S O L _).mono ?_
  rintro e w3 ⟨rfl, hb3⟩
  go_wp2_with fail
  refine (rput_bad V F S O L _ hF0 hF1 h).mono ?_
  rintro e w4 ⟨rfl, hb4⟩
  have sw2 := SW.nil w4
  rw [hx]
  have hb24 : Below w2.heap.size w2 w4 := below_then hb3 hb4
  have sw1' := sw1.then_ hb24
  obtain ⟨hlt3, e0, e1, e2, e3, e4⟩ := put_s hlt2 d0 d1 d2 d3 d4 hb24
  go_wp2_with fail
  go_region_held3 (fun w' => w.heap.size < w'.heap.size ∧ w'.cell? ⟨w.heap.size, 0, none⟩ = some (.int .u8 V) ∧ w'.cell? ⟨w.heap.size, 1, none⟩ = some (.int .u8 F) ∧ w'.cell? ⟨w.heap.size, 2, none⟩ = some (.int .i16 S) ∧ w'.cell? ⟨w.heap.size, 3, none⟩ = some (.int .u8 O) ∧ w'.cell? ⟨w.heap.size, 4, none⟩ = some (.int .u32 L) ∧
      (convert 27 9 (.slice none 0 0)).run Try.prog w' = .ok (.string ⟨([] : List UInt8).toArray⟩) w' ∧ (convert 27 9 (.slice none 0 0)).run Try.prog w' = .ok (.string ⟨([] : List UInt8).toArray⟩) w')
    (first | (refine puts_s hlt3 e0 e1 e2 e3 e4 sw1' sw2 ?_; (repeat' (first | exact Below.refl _ _ | assumption | refine below_new ?_ _ | refine Below.drew ?_ | refine below_then ?_ (by assumption)))))
    (first | (go_at_call 19; refine (check_any V F S O L _ hF0 hF1).mono ?_; rintro e w5 ⟨rfl, hbl⟩; rw [hx]) | (go_at_call 18; refine (model_any V F S O L _).mono ?_; rintro e w5 ⟨rfl, hbl⟩) | (go_at_call 20; refine (rcheck_any V F S O L _ hF0 hF1).mono ?_; rintro e w5 ⟨rfl, hbl⟩; rw [hx]))
  go_wp2_with fail
  go_ret
  refine ⟨rfl, ?_⟩
  (repeat' (first | exact Below.refl _ _ | assumption | refine below_new ?_ _ | refine Below.drew ?_ | refine below_then ?_ (by assumption)))
theorem puts_any (V F S O L : Int) (w : World) (hV0 : 0 ≤ V) (hV1 : V < 256) (hF0 : 0 ≤ F) (hF1 : F < 256) (hS0 : -32768 ≤ S) (hS1 : S < 32768) (hO0 : 0 ≤ O) (hO1 : O < 256) (hL0 : 0 ≤ L) (hL1 : L < 4294967296) :
    Calls Try.prog 3 #[hdr V F S O L] w fun e w' => e = .returned (.bool true) ∧ Below w.heap.size w w' := by
  by_cases h : chk V F O L = 0
  · exact puts_ok V F S O L w hV0 hV1 hF0 hF1 hS0 hS1 hO0 hO1 hL0 hL1 h
  · exact puts_bad V F S O L w hV0 hV1 hF0 hF1 hS0 hS1 hO0 hO1 hL0 hL1 h
end Go.Proofs.Ytiehhoonfneccaa
