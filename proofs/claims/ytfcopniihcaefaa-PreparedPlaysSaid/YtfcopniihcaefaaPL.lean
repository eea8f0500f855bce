/- prepared: the document's example. No condition. -/
import Derived.Test.YtfcopniihcaefaaPK
namespace Go.Proofs.Ytfcopniihcaefaa
open Go.RowKit
theorem US.none_ (w : World) (B : Nat) : US w B none 0 0 [] := ⟨rfl, Nat.le_refl _, by decide, fun z hz => absurd hz (by simp), fun _ => rfl, fun h => absurd h (Nat.lt_irrefl _)⟩
theorem Kw.then_below {a w w' : World} {p : Nat} {v v' : Value} (h : Kw a w p v v') (hb : Below w.heap.size w w') : Kw a w' p v v' := h.trans (Kw.of_below hb p v')
set_option maxHeartbeats 1000000 in
theorem awake20 (w : World) : Calls Try.prog 7 #[] w fun r w' => r = .returned (.bool true) ∧ Below w.heap.size w w' := by
  go_enter Try.func7, Try.ntmps7
  go_wp2_with fail
  refine (new_k 1 1 _ rfl).mono ?_
  rintro _ w1 ⟨rfl, hc1, hb1⟩
  obtain ⟨P, hP⟩ : ∃ P, w.heap.size = P := ⟨_, rfl⟩
  rw [hP] at hc1 hb1 ⊢
  have HC1 := Lib.hid hc1
  have HB1 := Lib.hid hb1
  clear hc1 hb1
  go_wp2_with fail
  refine (put_k [97] [49] none 0 0 [] _ HC1.out (US.none_ _ P) (Nat.le_refl _) (by omega) (by decide)).mono ?_
  rintro _ w2 ⟨rfl, v2, hc2, hk2⟩
  rw [show putK 1 ([97], [49], []) [] = [([97], [49], [])] by rfl] at hc2
  have HC2 := Lib.hid hc2
  have HB2 := Lib.hid (HB1.out.trans (HC1.out.kw_below hk2 (Nat.le_refl _)))
  clear hc2 hk2
  go_wp2_with fail
  refine (text_k [97] _ HC2.out (by decide)).mono ?_
  rintro r w3 ⟨hc3, hk3, hg3⟩
  obtain ⟨A3, c3, rfl, hko3⟩ : GotK w3 w2.heap.size (some ([97], [49], [])) r := hg3
  have hc3' : CK w3 (P + 1) P 1 v2 [([97], [49], [])] := hc3
  have HX4 := Lib.hid (Row.new w3 31 #[.string ⟨[97].toArray⟩, .string ⟨[49].toArray⟩, .slice A3 0 c3])
  have HF4 := Lib.hid (hc3'.far_new (.cells #[.string ⟨[97].toArray⟩, .string ⟨[49].toArray⟩, .slice A3 0 c3] 31))
  have HC4 := Lib.hid (hc3'.below (below_new (Below.refl _ _) (.cells #[.string ⟨[97].toArray⟩, .string ⟨[49].toArray⟩, .slice A3 0 c3] 31)))
  have HB4 := Lib.hid ((HB2.out.trans (HC2.out.kw_below hk3 (Nat.le_refl _))).trans ((below_new (Below.refl w3.heap.size w3) (.cells #[.string ⟨[97].toArray⟩, .string ⟨[49].toArray⟩, .slice A3 0 c3] 31)).mono (by have := hc3'.le; omega)))
  clear hc3 hk3 hko3 hc3'
  go_upto_region 4 with fail
  obtain ⟨w4, hw4⟩ : ∃ w4, w3.alloc (.cells #[.string ⟨[97].toArray⟩, .string ⟨[49].toArray⟩, .slice A3 0 c3] 31) = w4 := ⟨_, rfl⟩
  rw [hw4] at HX4 HF4 HC4 HB4
  rw [hw4]
  clear hw4
  go_wp2_with fail
  refine (put_k [98] [50] none 0 0 [] _ HC4.out (US.none_ _ P) (Nat.le_refl _) (by omega) (by decide)).mono ?_
  rintro _ w5 ⟨rfl, v5, hc5, hk5⟩
  rw [show putK 1 ([98], [50], []) [([97], [49], [])] = [([98], [50], [])] by rfl] at hc5
  have HC5 := Lib.hid hc5
  have HX5 := Lib.hid (hk5.row HX4.out HF4.out)
  have HF5 := Lib.hid (hk5.keep _ HF4.out).1
  have HB5 := Lib.hid (HB4.out.trans (HC4.out.kw_below hk5 (Nat.le_refl _)))
  clear hc5 hk5
  go_wp2_with fail
  refine (text_k [97] _ HC5.out (by decide)).mono ?_
  rintro r w6 ⟨hc6, hk6, hg6⟩
  obtain rfl : r = .returned (.tuple #[.agg #[.string ⟨[].toArray⟩, .string ⟨[].toArray⟩, .slice none 0 0], .bool false]) := hg6
  have hc6' : CK w6 (P + 1) P 1 v5 [([98], [50], [])] := hc6
  have b7 := below_new (Below.refl w6.heap.size w6) (.cells #[.string ⟨[].toArray⟩, .string ⟨[].toArray⟩, .slice none 0 0] 31)
  have HC7 := Lib.hid (hc6'.below b7)
  have HX7 := Lib.hid ((hk6.row HX5.out HF5.out).below b7 (hk6.row HX5.out HF5.out).lt)
  have HF7 := Lib.hid ((hk6.then_below b7).keep _ HF5.out).1
  have HB7 := Lib.hid ((HB5.out.trans (HC5.out.kw_below hk6 (Nat.le_refl _))).trans (b7.mono (by have := hc6'.le; omega)))
  clear hc6 hk6 hc6' b7
  go_upto_region 6 with fail
  obtain ⟨w7, hw7⟩ : ∃ w7, w6.alloc (.cells #[.string ⟨[].toArray⟩, .string ⟨[].toArray⟩, .slice none 0 0] 31) = w7 := ⟨_, rfl⟩
  rw [hw7] at HX7 HF7 HC7 HB7
  rw [hw7]
  clear hw7
  go_wp2_with fail
  refine (id_k [50] _ HC7.out (by decide)).mono ?_
  rintro r w8 ⟨hc8, hb8, hg8⟩
  obtain ⟨A8, c8, rfl, _⟩ : GotK w8 w7.heap.size (some ([98], [50], [])) r := hg8
  have b9 := below_new hb8 (.cells #[.string ⟨[98].toArray⟩, .string ⟨[50].toArray⟩, .slice A8 0 c8] 31)
  have HC9 := Lib.hid (HC7.out.below b9)
  have HX9 := Lib.hid (HX7.out.below b9 HX7.out.lt)
  have HF9 := Lib.hid ((Kw.of_below b9 P v5).keep _ HF7.out).1
  have HB9 := Lib.hid (HB7.out.trans (b9.mono (by have := HC7.out.le; omega)))
  clear hc8 hb8 b9
  go_upto_region 7 with fail
  obtain ⟨w9, hw9⟩ : ∃ w9, w8.alloc (.cells #[.string ⟨[98].toArray⟩, .string ⟨[50].toArray⟩, .slice A8 0 c8] 31) = w9 := ⟨_, rfl⟩
  rw [hw9] at HX9 HF9 HC9 HB9
  rw [hw9]
  clear hw9
  obtain ⟨x0, x1, x2, x3⟩ := HX9.out.three
  go_wp2_with fail
  refine (all_k _ HC9.out (by decide)).mono ?_
  rintro r w10 ⟨v10, out, rfl, hel10, _, hm10, hb10⟩
  have hol : out.length = 1 := by simpa using congrArg List.length hm10
  obtain ⟨Ao, co, rfl⟩ := hel10.form
  rw [hol]
  have HC10 := Lib.hid (HC9.out.below hb10)
  have HB10 := Lib.hid (HB9.out.trans (hb10.mono (by have := HC9.out.le; omega)))
  clear hel10 hm10 hb10 x0 x1 x2 x3
  go_wp2_with fail
  refine (drop_k [50] _ HC10.out (by decide)).mono ?_
  rintro r w11 ⟨hr, v11, hc11, hk11⟩
  obtain rfl : r = .returned (.bool true) := hr
  have hc11' : CK w11 (P + 1) P 1 v11 [] := hc11
  have HC11 := Lib.hid hc11'
  have HB11 := Lib.hid (HB10.out.trans (HC10.out.kw_below hk11 (Nat.le_refl _)))
  clear hc11 hk11 hc11'
  go_wp2_with fail
  refine (drop_k [50] _ HC11.out (by decide)).mono ?_
  rintro r w12 ⟨hr, v12, hc12, hk12⟩
  obtain rfl : r = .returned (.bool false) := hr
  have HB12 := Lib.hid (HB11.out.trans (HC11.out.kw_below hk12 (Nat.le_refl _)))
  clear hc12 hk12
  go_wp2_with fail
  go_ret
  rw [hP]
  exact ⟨rfl, HB12.out⟩
end Go.Proofs.Ytfcopniihcaefaa
