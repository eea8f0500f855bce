/- SplitterNone: the walk. No condition but that the byte is one. -/
import Derived.Test.YtiehhoonfneccaaSE
import Derived.Deep.CutBlock
namespace Go.Proofs.Ytiehhoonfneccaa
open Go.RowKit
theorem none_out {A : Option Addr} {n c : Nat} {l : List UInt8} (b0 : Int) (w : World) (hl : SW w A n c l) (hn : 500 < n ∨ n = 0) :
    Calls Try.prog 11 #[.slice A n c, .int .u8 b0] w fun e w' => e = .returned (.bool true) ∧ Below w.heap.size w w' := by
  have hm := Nat.le_trans (BS.cap hl) (BS.max hl)
  unfold maxLen at hm
  rcases hn with hn | hn
  · go_enter Try.func11, Try.ntmps11
    go_wp2_with fail
    refine (awake6 _).mono ?_
    rintro e w1 ⟨rfl, hb1⟩
    go_wp2_with fail
    go_ret
    exact ⟨rfl, hb1⟩
  · subst hn
    go_enter Try.func11, Try.ntmps11
    go_wp2_with fail
    refine (awake6 _).mono ?_
    rintro e w1 ⟨rfl, hb1⟩
    go_wp2_with fail
    go_ret
    exact ⟨rfl, hb1⟩
set_option maxRecDepth 100000 in
set_option maxHeartbeats 3200000 in
theorem none_in {A : Option Addr} {n c : Nat} {l : List UInt8} (b0 : Int) (w : World) (hl : SW w A n c l) (hn : n ≤ 500) (hn0 : 0 < n) :
    Calls Try.prog 11 #[.slice A n c, .int .u8 b0] w fun e w' => e = .returned (.bool true) ∧ Below w.heap.size w w' := by
  have hlen := BS.len hl
  have hz0 : ((n : Int) == 0) = false := beq_eq_false_iff_ne.2 (by omega)
  go_enter Try.func11, Try.ntmps11
  go_wp2_with fail
  refine (awake6 _).mono ?_
  rintro e w1 ⟨rfl, hb1⟩
  have hl1 := hl.then_ hb1
  go_wp2_with fail
  refine (sadd_none _).mono ?_
  rintro e w2 ⟨rfl, rfl⟩
  go_wp2_with fail
  refine (join_ok 132 0 0 8 _ hl1 (by omega) (by omega) (by omega) (by omega) (by omega) (by omega) (by omega) (chk_132 8 (by decide) n (by omega))).mono ?_
  rintro e w2 ⟨v, rfl, hown, hb2⟩
  have hl2 := hl1.then_ hb2
  go_wp2_with fail
  refine (new_any 132 _).mono ?_
  rintro e w3 ⟨rfl, hS3, hb3⟩
  obtain ⟨AJ, cJ, rfl, swJ⟩ := SW.of_own hown
  go_wp2_with fail
  have hsp := spl_put (V := 132) (F := 0) (S := 0) (O := 8) (l := l) (more := []) (by omega) (by omega) (by omega) (by omega) (by omega) (by omega) (by omega) (by omega) (by omega) (by rw [hlen]; exact chk_132 8 (by decide) n (by omega)) (9 + n)
  rw [hlen, List.append_nil, spl_stop_short 132 (9 + n) [] (by decide)] at hsp
  refine (add_is (9 + n + 1) [⟨132, 0, 0, 8, (n : Int), l⟩] [] 0 hS3 (swJ.then_ hb3) (by simp; omega) (by omega) (by omega) (by simp) (by rw [List.nil_append]; exact hsp)).mono ?_
  rintro e w4 ⟨B4, d4, x4, A4, c4, rfl, hF4, hS4, hG4⟩
  go_wp2_with fail
  refine (left_none _).mono ?_
  rintro e w5 ⟨rfl, rfl⟩
  have hown4 := own_typed (own_below hown hb3) hG4 hS3.row (by decide)
  have hg2 : ∀ a, AJ = some a → a.block < w2.heap.size := fun a ha => by
    have := (hown.lt a.block (by rw [ha]; rfl)).2
    exact this
  have hrow : ∃ g cap cur, AJ = some ⟨g, 0, none⟩ ∧ cJ = cap ∧ w1.heap.size ≤ g ∧ Row w4 g 5 cur ∧ 9 + n ≤ cur.size ∧ 9 + n ≤ cap ∧ cap ≤ maxLen := by
    rcases hown4.2 with ⟨_, e2⟩ | ⟨g, cap, cur, e1, hb, hh, hnc, hmx, hsz, _⟩
    · omega
    · injection e1 with e1 _ e3
      exact ⟨g, cap, cur, e1, e3, hb, hh, by omega, hnc, hmx⟩
  obtain ⟨g, cap, cur, rfl, rfl, hg1, hrow4, hsz4, hcp, hcm⟩ := hrow
  have HCM := Lib.hid hcm
  clear hcm
  have hgp : g < w2.heap.size := hg2 _ rfl
  have hbR : Below w1.heap.size w1 w4 := (below_then hb2 hb3).grown hG4 (below_then hb2 hb3).size (fun k hk => by injection hk with hk; rw [← hk]; exact hb2.size)
  have hgb : g < w3.heap.size := Nat.lt_of_lt_of_le hgp hb3.size
  clear hown hown4 hg2 swJ hsp hl2
  go_wp2_with fail
  go_loopw [14] (fun i wr => ∃ (k : Nat) (cur : Array Value), k ≤ 9 + n ∧ i = .int .i64 k ∧ Row wr g 5 cur ∧ 9 + n ≤ cur.size ∧ Spl wr w2.heap.size 132 [] 0 A4 c4 ∧ Frs wr w3.heap.size (.slice B4 1 d4) [⟨132, 0, 0, 8, (n : Int), l⟩] x4 ∧ Below w1.heap.size w1 wr) (fun i _ => 9 + n - (intOf i).toNat)
  case atStart => exact ⟨0, cur, by omega, rfl, hrow4, hsz4, hS4, hF4, hbR⟩
  case round =>
    obtain ⟨k, cu, hk, rfl, hr, hsz, hSr, hFr, hbr⟩ := hrel
    clear hrow4 hsz4 hS4 hF4 hbR hG4
    by_cases hlt : k < 9 + n
    · have hck : ∃ v0, wr.cell? ⟨g, k, none⟩ = some v0 := ⟨_, by rw [hr.cell]; exact Array.getElem?_eq_getElem (by omega)⟩
      obtain ⟨v0, hv0⟩ := hck
      have hfk := hr.frozen k
      go_wp2_with fail
      refine ⟨⟨k + 1, _, by omega, by go_num, hr.set_ _ _, by simpa using hsz, hSr.far (by omega), hFr.far hgb, hbr.setCell (by exact hg1) _⟩, by simp [intOf]; omega⟩
    · go_wp2_with fail
      refine (add_is (l2 := [0, 0, 0, 0, 0, 0, 0, 0, 0]) 10 _ _ _ (hSr.below (below_new (Below.refl _ _) _)) (SW.lit _ 5 _ _ _ rfl rfl 9 rfl (by decide)) (by decide) (by omega) (by omega) rfl spl_noughts).mono ?_
      rintro e w5 ⟨B5, d5, x5, A5, c5, rfl, hF5, hS5, hG5⟩
      go_wp2_with fail
      refine (add_err hS5 (by omega)).mono ?_
      rintro e w6 ⟨rfl, hb6⟩
      go_upto_region 19 with fail
      have hF6 := ((hFr.below (below_new (Below.refl _ _) _)).grown (hSr.below (below_new (Below.refl _ _) _)).row hG5).below hb6
      have hS6 := hS5.below hb6
      have hb16 : Below w1.heap.size w1 w6 := below_then ((below_new hbr _).grown hG5 (below_new hbr _).size (fun k hk => by injection hk with hk; rw [← hk]; exact hb2.size)) hb6
      have hl6 := hl1.then_ hb16
      obtain ⟨gf, cf, Af, df, hvf, hcf1, hcf2, hgf, hcell, hsw⟩ := frs_first hF6
      injection hvf with e1 e2 e3
      clear e2
      subst e1
      subst e3
      clear hcf2 hcf1
      have hsw' : SW w6 Af n df l := by rw [← hlen]; exact hsw
      have s1 := str_drawn hsw'
      have s2 := str_drawn hl6
      go_quiet ((refine (left_any (hS6.below (below_drewN (Below.refl _ _) _))).mono ?_; rintro e w' ⟨rfl, rfl⟩; exact ⟨rfl, _, rfl⟩))
      go_wp2_with fail
      go_ret
      exact ⟨rfl, below_drewN (below_then hb1 hb16) _⟩
theorem none_any {A : Option Addr} {n c : Nat} {l : List UInt8} (b0 : Int) (w : World) (hl : SW w A n c l) :
    Calls Try.prog 11 #[.slice A n c, .int .u8 b0] w fun e w' => e = .returned (.bool true) ∧ Below w.heap.size w w' := by
  by_cases h : 500 < n ∨ n = 0
  · exact none_out b0 w hl h
  · exact none_in b0 w hl (by omega) (by omega)
end Go.Proofs.Ytiehhoonfneccaa
