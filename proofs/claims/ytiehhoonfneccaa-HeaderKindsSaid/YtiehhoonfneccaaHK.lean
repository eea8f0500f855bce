/- HeaderKinds: the walk. No condition but that the flags are a byte. -/
import Derived.Test.YtiehhoonfneccaaHL
namespace Go.Proofs.Ytiehhoonfneccaa
open Go.RowKit
theorem kinds_s {w1 w' : World} {t : TypeId} {a b c d e : Value} (hb : Below (w1.alloc (.cells #[a, b, c, d, e] t)).heap.size (w1.alloc (.cells #[a, b, c, d, e] t)) w') :
    w1.heap.size < w'.heap.size ∧ w'.cell? ⟨w1.heap.size, 0, none⟩ = some a ∧ w'.cell? ⟨w1.heap.size, 1, none⟩ = some b ∧ w'.cell? ⟨w1.heap.size, 2, none⟩ = some c ∧ w'.cell? ⟨w1.heap.size, 3, none⟩ = some d ∧ w'.cell? ⟨w1.heap.size, 4, none⟩ = some e := by
  obtain ⟨h0, h1, h2, h3, h4, h5, _⟩ := box_kept hb
  exact ⟨h0, h1, h2, h3, h4, h5⟩
set_option maxHeartbeats 800000 in
theorem kinds_yes (F O S : Int) (w : World) (hF0 : 0 ≤ F) (hF1 : F < 256) :
    Calls Try.prog 7 #[.bool true, .int .u8 F, .int .u8 O, .int .i16 S] w fun e w' => e = .returned (.bool true) ∧ Below w.heap.size w w' := by
  go_enter Try.func7, Try.ntmps7
  go_wp2_with fail
  refine (awake5 _).mono ?_
  rintro e w1 ⟨rfl, hb1⟩
  go_wp2_with fail
  go_region_held3 (fun w' => w1.heap.size < w'.heap.size ∧ w'.cell? ⟨w1.heap.size, 0, none⟩ = some (.int .u8 132) ∧ w'.cell? ⟨w1.heap.size, 1, none⟩ = some (.int .u8 F) ∧ w'.cell? ⟨w1.heap.size, 2, none⟩ = some (.int .i16 S) ∧ w'.cell? ⟨w1.heap.size, 3, none⟩ = some (.int .u8 O) ∧ w'.cell? ⟨w1.heap.size, 4, none⟩ = some (.int .u32 0))
    (first | (refine kinds_s (t := 25) ?_; (repeat' (first | exact Below.refl _ _ | assumption | refine below_new ?_ _ | refine Below.drew ?_ | refine below_then ?_ (by assumption)))))
    (first | (go_at_call 19; refine (check_any 132 F S O 0 _ hF0 hF1).mono ?_; rintro e w5 ⟨rfl, hbl⟩) | (go_at_call 18; refine (model_any 132 F S O 0 _).mono ?_; rintro e w5 ⟨rfl, hbl⟩) | (go_at_call 20; refine (rcheck_any 132 F S O 0 _ hF0 hF1).mono ?_; rintro e w5 ⟨rfl, hbl⟩))
  go_wp2_with fail
  go_ret
  refine ⟨rfl, below_then hb1 ?_⟩
  all_goals (repeat' (first | exact Below.refl _ _ | assumption | refine below_new ?_ _ | refine Below.drew ?_ | refine below_then ?_ (by assumption)))
set_option maxHeartbeats 800000 in
theorem kinds_no (F O S : Int) (w : World) (hF0 : 0 ≤ F) (hF1 : F < 256) :
    Calls Try.prog 7 #[.bool false, .int .u8 F, .int .u8 O, .int .i16 S] w fun e w' => e = .returned (.bool true) ∧ Below w.heap.size w w' := by
  go_enter Try.func7, Try.ntmps7
  go_wp2_with fail
  refine (awake5 _).mono ?_
  rintro e w1 ⟨rfl, hb1⟩
  go_wp2_with fail
  go_region_held3 (fun w' => w1.heap.size < w'.heap.size ∧ w'.cell? ⟨w1.heap.size, 0, none⟩ = some (.int .u8 4) ∧ w'.cell? ⟨w1.heap.size, 1, none⟩ = some (.int .u8 F) ∧ w'.cell? ⟨w1.heap.size, 2, none⟩ = some (.int .i16 S) ∧ w'.cell? ⟨w1.heap.size, 3, none⟩ = some (.int .u8 O) ∧ w'.cell? ⟨w1.heap.size, 4, none⟩ = some (.int .u32 0))
    (first | (refine kinds_s (t := 25) ?_; (repeat' (first | exact Below.refl _ _ | assumption | refine below_new ?_ _ | refine Below.drew ?_ | refine below_then ?_ (by assumption)))))
    (first | (go_at_call 19; refine (check_any 4 F S O 0 _ hF0 hF1).mono ?_; rintro e w5 ⟨rfl, hbl⟩) | (go_at_call 18; refine (model_any 4 F S O 0 _).mono ?_; rintro e w5 ⟨rfl, hbl⟩) | (go_at_call 20; refine (rcheck_any 4 F S O 0 _ hF0 hF1).mono ?_; rintro e w5 ⟨rfl, hbl⟩))
  go_wp2_with fail
  go_ret
  refine ⟨rfl, below_then hb1 ?_⟩
  all_goals (repeat' (first | exact Below.refl _ _ | assumption | refine below_new ?_ _ | refine Below.drew ?_ | refine below_then ?_ (by assumption)))
theorem kinds_any (b : Bool) (F O S : Int) (w : World) (hF0 : 0 ≤ F) (hF1 : F < 256) :
    Calls Try.prog 7 #[.bool b, .int .u8 F, .int .u8 O, .int .i16 S] w fun e w' => e = .returned (.bool true) ∧ Below w.heap.size w w' := by
  cases b
  · exact kinds_no F O S w hF0 hF1
  · exact kinds_yes F O S w hF0 hF1
end Go.Proofs.Ytiehhoonfneccaa
