/- awake of chapter 6. No condition. -/
import Derived.Test.YtiehhoonfneccaaSC
namespace Go.Proofs.Ytiehhoonfneccaa
open Go.RowKit
theorem Frs.form {w : World} {base : Nat} {v : Value} {fs : List Fr} {xs : List Value} (h : Frs w base v fs xs) : ∃ A c, v = .slice A fs.length c := by
  rcases h.row.2 with ⟨e, hn⟩ | ⟨g, cap, cur, e, _⟩
  · exact ⟨none, 0, by rw [e, hn]⟩
  · exact ⟨_, _, e⟩
theorem Frs.grown {w w' : World} {base p : Nat} {v : Value} {fs : List Fr} {xs : List Value} {cs : Array Value} (h : Frs w base v fs xs) (hr : Row w p 82 cs) (hg : w.grownBy w' (some p)) : Frs w' base v fs xs :=
  ⟨own_typed h.row hg hr (by decide), FrsIn.typed hg hr (by decide) h.cells⟩
/-- Add, with what it comes to told. -/
theorem add_is {w : World} {p : Nat} {ver : Int} {l l2 : List UInt8} {A A2 : Option Addr} {c m c2 : Nat} (k : Nat) (fs : List Fr) (r : List UInt8) (x : Int) (h : Spl w p ver l 0 A c) (h2 : SW w A2 m c2 l2) (hm : l.length + m ≤ 1099511627776) (hv0 : 0 ≤ ver) (hv1 : ver < 256)
    (hk : k = l.length + m + 1) (hs : spl ver k (l ++ l2) = (fs, r, x)) :
    Calls Try.prog 26 #[.pointer (some ⟨p, 0, none⟩), .slice A2 m c2] w fun e w' => ∃ B d xs A' c', e = .returned (.tuple #[.slice B fs.length d, .int .i64 x]) ∧ Frs w' w.heap.size (.slice B fs.length d) fs xs ∧ Spl w' p ver r x A' c' ∧ w.grownBy w' (some p) := by
  subst hk
  refine (add_ok h h2 hm hv0 hv1).mono ?_
  rintro e w' ⟨v, xs, A', c', rfl, hF, hS, hG⟩
  rw [hs] at hF hS ⊢
  obtain ⟨B, d, rfl⟩ := hF.form
  exact ⟨B, d, xs, A', c', rfl, hF, hS, hG⟩
set_option maxRecDepth 10000 in
theorem spl_a : spl 4 11 ([] ++ [4, 0, 0, 3, 7, 0, 0, 0, 2, 5]) = ([], [4, 0, 0, 3, 7, 0, 0, 0, 2, 5], 0) := by kernel_rfl
set_option maxRecDepth 10000 in
theorem spl_b : spl 4 12 ([4, 0, 0, 3, 7, 0, 0, 0, 2, 5] ++ [6]) = ([⟨4, 0, 3, 7, 2, [5, 6]⟩], [], 0) := by kernel_rfl
set_option maxHeartbeats 1600000 in
theorem awake6 (w : World) : Calls Try.prog 23 #[] w fun e w' => e = .returned (.bool true) ∧ Below w.heap.size w w' := by
  go_enter Try.func23, Try.ntmps23
  go_wp2_with fail
  refine (new_any 4 _).mono ?_
  rintro e w1 ⟨rfl, hS1, hb1⟩
  go_wp2_with fail
  refine (add_is (l2 := [4, 0, 0, 3, 7, 0, 0, 0, 2, 5]) 11 _ _ _ (hS1.below (below_new (Below.refl _ _) _)) (SW.lit _ 5 _ _ _ rfl rfl 10 rfl (by decide)) (by decide) (by omega) (by omega) rfl spl_a).mono ?_
  rintro e w2 ⟨B2, d2, x2, A2, c2, rfl, hF2, hS2, hG2⟩
  go_wp2_with fail
  refine (left_any hS2).mono ?_
  rintro e w3 ⟨rfl, rfl⟩
  go_wp2_with fail
  refine (add_is (l2 := [6]) 12 _ _ _ (hS2.below (below_new (Below.refl _ _) _)) (SW.lit _ 5 _ _ _ rfl rfl 1 rfl (by decide)) (by decide) (by omega) (by omega) rfl spl_b).mono ?_
  rintro e w4 ⟨B4, d4, x4, A4, c4, rfl, hF4, hS4, hG4⟩
  go_wp2_with fail
  refine (join_body 0 0 0 0 0 _ (by omega) (by omega) (by omega) (by omega)).mono ?_
  rintro e w5 ⟨rfl, hb5⟩
  have hbb := below_then (below_new (Below.refl w4.heap.size w4) (.cells #[.int .u8 1] 5)) hb5
  have hF5 := hF4.below hbb
  have hS5 := hS4.below hbb
  obtain ⟨g, cap, A, c, hv, hc1, hc2, hg, hcell, hsw⟩ := frs_first hF5
  injection hv with e1 _ e3
  subst e1
  subst e3
  go_wp2_with fail
  refine (left_any hS5).mono ?_
  rintro e w6 ⟨rfl, rfl⟩
  go_wp2_with fail
  go_ret
  have hq : ∀ k, some w.heap.size = some k → w.heap.size ≤ k := fun k hk => by injection hk with hk; omega
  have b2 : Below w.heap.size w w2 := (below_new hb1 _).grown hG2 (below_new hb1 _).size hq
  have b4 : Below w.heap.size w w4 := (below_new b2 _).grown hG4 (below_new b2 _).size hq
  exact ⟨rfl, below_then b4 hbb⟩
end Go.Proofs.Ytiehhoonfneccaa
