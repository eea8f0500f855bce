/- HeaderGets: the walk. No condition. -/
import Derived.Test.YtiehhoonfneccaaHW
namespace Go.Proofs.Ytiehhoonfneccaa
open Go.RowKit
/-- Two boxes that lie one behind the other, once more has been made. -/
theorem gets_s {w1 w2 w' : World} {t u : TypeId} {a b c d e a' b' c' d' e' : Value} (hb : Below (w1.alloc (.cells #[a, b, c, d, e] t)).heap.size (w1.alloc (.cells #[a, b, c, d, e] t)) w2)
    (hb' : Below (w2.alloc (.cells #[a', b', c', d', e'] u)).heap.size (w2.alloc (.cells #[a', b', c', d', e'] u)) w') :
    (w1.heap.size < w'.heap.size ∧ w'.cell? ⟨w1.heap.size, 0, none⟩ = some a ∧ w'.cell? ⟨w1.heap.size, 1, none⟩ = some b ∧ w'.cell? ⟨w1.heap.size, 2, none⟩ = some c ∧ w'.cell? ⟨w1.heap.size, 3, none⟩ = some d ∧ w'.cell? ⟨w1.heap.size, 4, none⟩ = some e) ∧
    (w2.heap.size < w'.heap.size ∧ w'.cell? ⟨w2.heap.size, 0, none⟩ = some a' ∧ w'.cell? ⟨w2.heap.size, 1, none⟩ = some b' ∧ w'.cell? ⟨w2.heap.size, 2, none⟩ = some c' ∧ w'.cell? ⟨w2.heap.size, 3, none⟩ = some d' ∧ w'.cell? ⟨w2.heap.size, 4, none⟩ = some e') := by
  have h1 := box_kept (below_then hb (below_then (below_new (Below.refl _ _) _) hb'))
  have h2 := box_kept hb'
  exact ⟨⟨h1.1, h1.2.1, h1.2.2.1, h1.2.2.2.1, h1.2.2.2.2.1, h1.2.2.2.2.2.1⟩, ⟨h2.1, h2.2.1, h2.2.2.1, h2.2.2.2.1, h2.2.2.2.2.1, h2.2.2.2.2.2.1⟩⟩
theorem getH_form (l : List UInt8) : ∃ V F S O L, getH l = hdr V F S O L := by
  unfold getH
  split
  · exact ⟨_, _, _, _, _, rfl⟩
  · exact ⟨_, _, _, _, _, rfl⟩
set_option maxHeartbeats 800000 in
theorem gets5_any {A : Option Addr} {n c : Nat} {l : List UInt8} (w : World) (hl : BS w w.heap.size A n c l) :
    Calls Try.prog 4 #[.slice A n c] w fun e w' => e = .returned (.bool true) ∧ Below w.heap.size w w' := by
  obtain ⟨V, F, S, O, L, hH⟩ := getH_form l
  obtain ⟨x, hx⟩ : ∃ x, getE l = x := ⟨_, rfl⟩
  go_enter Try.func4, Try.ntmps4
  go_wp2_with fail
  refine (awake5 _).mono ?_
  rintro e w1 ⟨rfl, hb1⟩
  have hl1 : BS w1 w1.heap.size A n c l := SW.then_ hl hb1
  go_wp2_with fail
  refine (hget_any _ hl1 (Nat.le_refl _)).mono ?_
  rintro e w2 ⟨rfl, hb2⟩
  rw [hH, hx]
  have hl2 : BS w2 w2.heap.size A n c l := SW.then_ hl1 hb2
  go_wp2_with fail
  refine (rget_all _ (hl2.alloc (Nat.le_refl _) _) (by simp)).mono ?_
  rintro e w3 ⟨rfl, hb3⟩
  rw [hH, hx]
  obtain ⟨_, c0, c1, c2, c3, c4, hb03⟩ := box_kept hb3
  go_wp2_with fail
  go_region_held3 (fun w' => (w2.heap.size < w'.heap.size ∧ w'.cell? ⟨w2.heap.size, 0, none⟩ = some (.int .u8 V) ∧ w'.cell? ⟨w2.heap.size, 1, none⟩ = some (.int .u8 F) ∧ w'.cell? ⟨w2.heap.size, 2, none⟩ = some (.int .i16 S) ∧ w'.cell? ⟨w2.heap.size, 3, none⟩ = some (.int .u8 O) ∧ w'.cell? ⟨w2.heap.size, 4, none⟩ = some (.int .u32 L)) ∧ (w3.heap.size < w'.heap.size ∧ w'.cell? ⟨w3.heap.size, 0, none⟩ = some (.int .u8 V) ∧ w'.cell? ⟨w3.heap.size, 1, none⟩ = some (.int .u8 F) ∧ w'.cell? ⟨w3.heap.size, 2, none⟩ = some (.int .i16 S) ∧ w'.cell? ⟨w3.heap.size, 3, none⟩ = some (.int .u8 O) ∧ w'.cell? ⟨w3.heap.size, 4, none⟩ = some (.int .u32 L)))
    (first | (refine gets_s hb3 (u := 32) ?_; (repeat' (first | exact Below.refl _ _ | assumption | refine below_new ?_ _ | refine Below.drew ?_ | refine below_then ?_ (by assumption)))))
    (first | (go_at_call 18; refine (model_any V F S O L _).mono ?_; rintro e w5 ⟨rfl, hbl⟩))
  go_wp2_with fail
  go_ret
  refine ⟨rfl, below_then hb1 (below_then hb2 (below_then hb03 ?_))⟩
  (repeat' (first | exact Below.refl _ _ | assumption | refine below_new ?_ _ | refine Below.drew ?_ | refine below_then ?_ (by assumption)))
end Go.Proofs.Ytiehhoonfneccaa
