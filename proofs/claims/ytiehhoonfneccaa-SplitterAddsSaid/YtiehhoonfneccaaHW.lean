/- model and awake of chapter 5. No condition. -/
import Derived.Test.YtiehhoonfneccaaHP
import Derived.Test.YtiehhoonfneccaaHR
namespace Go.Proofs.Ytiehhoonfneccaa
open Go.RowKit
theorem model_any (V F S O L : Int) (w : World) :
    Calls Try.prog 18 #[hdr V F S O L] w fun e w' => e = .returned (hdr V F S O L) ∧ Below w.heap.size w w' := by
  go_enter Try.func18, Try.ntmps18
  go_wp2_with fail
  go_returns
  exact ⟨rfl, below_new (below_new (Below.refl _ _) _) _⟩
theorem str_drawn {w : World} {B n c : Nat} {A : Option Addr} {l : List UInt8} (h : BS w B A n c l) : ∀ k, (convert 27 9 (.slice A n c)).run Try.prog (w.drewN k) = .ok (.string ⟨l.toArray⟩) (w.drewN k) :=
  fun k => run_str (h.drewN k) 27 9 5 Try.underlying27 Try.underlying5 Try.underlying9
theorem str_now {w : World} {B n c : Nat} {A : Option Addr} {l : List UInt8} (h : BS w B A n c l) : (convert 27 9 (.slice A n c)).run Try.prog w = .ok (.string ⟨l.toArray⟩) w :=
  run_str h 27 9 5 Try.underlying27 Try.underlying5 Try.underlying9
set_option maxHeartbeats 800000 in
theorem awake5 (w : World) : Calls Try.prog 15 #[] w fun e w' => e = .returned (.bool true) ∧ Below w.heap.size w w' := by
  go_enter Try.func15, Try.ntmps15
  go_wp2_with fail
  refine (hput_ok 4 0 3 7 5 _ (by omega) (by omega) (by omega) (by omega) (by omega) (by omega) (by omega) (by omega) (by decide)).mono ?_
  rintro e w1 ⟨v, rfl, hown, hb⟩
  have e1 : putH 4 0 3 7 5 = [4, 0, 0, 3, 7, 0, 0, 0, 5] := by decide
  rw [e1] at hown
  obtain ⟨A, c, rfl, hsw⟩ := SW.of_own hown
  clear e1
  go_wp2_with fail
  refine (hget_any (l := [132, 8, 255, 255, 12, 0, 0, 0, 1, 7]) (B := w1.heap.size + 1) _ (BS.lit _ 5 _ _ rfl 10 rfl (by decide)) (by simp)).mono ?_
  rintro e w2 ⟨rfl, hb2⟩
  have e2 : getE [132, 8, 255, 255, 12, 0, 0, 0, 1, 7] = 0 := by decide
  have e3 : getH [132, 8, 255, 255, 12, 0, 0, 0, 1, 7] = hdr 132 8 (-1) 12 1 := by
    unfold getH
    rw [e2, show hS [132, 8, 255, 255, 12, 0, 0, 0, 1, 7] = -1 from by decide]
    rfl
  rw [e2, e3]
  have hbw : Below w1.heap.size w1 w2 := below_then (below_new (Below.refl _ _) _) hb2
  have s1 := str_now ((hsw.then_ hbw).alloc (.cells #[.int .u8 132, .int .u8 8, .int .i16 (-1), .int .u8 12, .int .u32 1] 25))
  clear e2 e3
  go_wp2_with fail
  refine (check_any 0 0 0 0 0 _ (by omega) (by omega)).mono ?_
  rintro e w3 ⟨rfl, hb3⟩
  rw [show chk 0 0 0 0 = 20 from by decide]
  go_wp2_with fail
  go_ret
  exact ⟨rfl, below_then (below_new (below_then hb hbw) _) hb3⟩
end Go.Proofs.Ytiehhoonfneccaa
