/- SplitterWaits: the walk. Where more's memory takes at most 2^47; no other condition but that lack is a byte. -/
import Derived.Test.YtiehhoonfneccaaSF
import Derived.Deep.CutBlock
namespace Go.Proofs.Ytiehhoonfneccaa
open Go.RowKit
theorem waits_out {A A2 : Option Addr} {n c n2 c2 : Nat} {l l2 : List UInt8} (y : Int) (w : World) (hl : SW w A n c l) (hl2 : SW w A2 n2 c2 l2) (hn : 500 < n ∨ 8 < n2) :
    Calls Try.prog 12 #[.slice A n c, .int .u8 y, .slice A2 n2 c2] w fun e w' => e = .returned (.bool true) ∧ Below w.heap.size w w' := by
  have hm := Nat.le_trans (BS.cap hl) (BS.max hl)
  have hm2 := Nat.le_trans (BS.cap hl2) (BS.max hl2)
  unfold maxLen at hm hm2
  by_cases h5 : 500 < n
  · go_enter Try.func12, Try.ntmps12
    go_wp2_with fail
    refine (awake6 _).mono ?_
    rintro e w1 ⟨rfl, hb1⟩
    go_wp2_with fail
    go_ret
    exact ⟨rfl, hb1⟩
  · have h8 : 8 < n2 := by omega
    go_enter Try.func12, Try.ntmps12
    go_wp2_with fail
    refine (awake6 _).mono ?_
    rintro e w1 ⟨rfl, hb1⟩
    go_wp2_with fail
    go_ret
    exact ⟨rfl, hb1⟩
set_option maxRecDepth 20000 in
set_option maxHeartbeats 3200000 in
theorem waits_in {A A2 : Option Addr} {n c n2 c2 : Nat} {l l2 : List UInt8} (y : Int) (w : World) (hl : SW w A n c l) (hl2 : SW w A2 n2 c2 l2) (hn : n ≤ 500) (hn2 : n2 ≤ 8) (hy0 : 0 ≤ y) (hy1 : y < 256) :
    Calls Try.prog 12 #[.slice A n c, .int .u8 y, .slice A2 n2 c2] w fun e w' => e = .returned (.bool true) ∧ Below w.heap.size w w' := by
  obtain ⟨i0, hi, hz0, hz1, hz2⟩ := info_parts info_byte
  have hlen := BS.len hl
  have hlen2 := BS.len hl2
  obtain ⟨k, hk⟩ : ∃ k : Nat, 9 + (n : Int) - 1 - y % (9 + (n : Int)) = k := ⟨(9 + (n : Int) - 1 - y % (9 + (n : Int))).toNat, by
    have := Int.emod_lt_of_pos y (show (0 : Int) < 9 + (n : Int) by omega)
    omega⟩
  have hkn : k < 9 + n := by
    have := Int.emod_nonneg y (show (9 + (n : Int)) ≠ 0 by omega)
    omega
  go_enter Try.func12, Try.ntmps12
  go_wp2_with fail
  refine (awake6 _).mono ?_
  rintro e w1 ⟨rfl, hb1⟩
  have hl1 := hl.then_ hb1
  have hl21 := hl2.then_ hb1
  go_wp2_with fail
  refine (join_ok 132 0 (-1) 12 _ hl1 (by omega) (by omega) (by omega) (by omega) (by omega) (by omega) (by omega) (chk_132 12 (by decide) n (by omega))).mono ?_
  rintro e w2 ⟨v, rfl, hown, hb2⟩
  obtain ⟨AJ, cJ, rfl, swJ⟩ := SW.of_own hown
  go_wp2_with fail
  refine (new_any 132 _).mono ?_
  rintro e w3 ⟨rfl, hS3, hb3⟩
  have hcJ := BS.cap swJ
  have swJ3 := swJ.then_ hb3
  have hcut := spl_cut (V := 132) (F := 0) (S := -1) (O := 12) (l := l) (by omega) (by omega) (by omega) (by omega) (by omega) (by omega) (by omega) (by omega) (by omega) (by rw [hlen]; exact chk_132 12 (by decide) n (by omega)) k (k + 1) (by omega) (by omega)
  have hres := spl_rest (V := 132) (F := 0) (S := -1) (O := 12) (l := l) (more := l2) (by omega) (by omega) (by omega) (by omega) (by omega) (by omega) (by omega) (by omega) (by omega) (by rw [hlen]; exact chk_132 12 (by decide) n (by omega)) k (k + (9 + n - k + n2)) (by omega)
  rw [hlen] at hcut hres
  have hBl := BS.len swJ
  obtain ⟨Bs, hBs⟩ : ∃ Bs, putH 132 0 (-1) 12 n ++ l = Bs := ⟨_, rfl⟩
  rw [hBs] at hcut hres hBl swJ swJ3 hown
  have htl : (Bs.take k).length = k := by rw [List.length_take, hBl]; omega
  have swK := BS.upto swJ3 (k := k) (by omega)
  obtain ⟨Pk, hPk⟩ : ∃ Pk, Bs.take k = Pk := ⟨_, rfl⟩
  rw [hPk] at hcut hres htl swK
  have HC := Lib.hid hcut
  have HR := Lib.hid hres
  have HTL := Lib.hid htl
  clear hcut hres hBs hPk htl hBl
  go_wp2_with fail
  refine (add_is (k + 1) [] Pk 0 hS3 swK (by simp; omega) (by omega) (by omega) (by simp) (by rw [List.nil_append]; exact HC.out)).mono ?_
  rintro e w4 ⟨B4, d4, x4, A4, c4, rfl, hF4, hS4, hG4⟩
  have hq : ∀ k, some w2.heap.size = some k → w1.heap.size ≤ k := fun k hk => by injection hk with hk; rw [← hk]; exact hb2.size
  have b14 : Below w1.heap.size w1 w4 := (below_then hb2 hb3).grown hG4 (below_then hb2 hb3).size hq
  have hown4 := own_typed (own_below hown hb3) hG4 hS3.row (by decide)
  obtain ⟨AJ', cJ', eJ, swJ4⟩ := SW.of_own hown4
  injection eJ with e1 e2 e3
  subst e1
  subst e3
  clear e2
  obtain ⟨bJ, oJ, rfl, _⟩ := BS.at_ swJ4 (by omega)
  have hRk := BS.from_ swJ4 (k := k) (by omega)
  rw [if_neg (by omega)] at hRk
  simp only [Option.map_some, add_none] at hRk
  have HRk := Lib.hid hRk
  have ucJ : ¬ cJ = k := by omega
  have ik : (k : Int) ≤ 9 + (n : Int) := by omega
  clear hown hown4 hRk swJ3 swK hF4 hq
  go_wp2_with fail
  refine (left_any hS4).mono ?_
  rintro e w5 ⟨rfl, rfl⟩
  rw [HTL.out]
  go_wp2_with (at_builtin; refine wpList_append_bs _ rfl _ _ 27 rfl w4.heap.size 5 i0 (.int .u8 0) Try.underlying27 hi hz0 hz1 hz2 rfl (.slice none 0 0) 0 [] rfl (World.ownsRow_nil _ _ _ _) rfl HRk.out ?_ ?_ ?_)
  · omega
  · exact Nat.le_refl _
  · intro v5 w5 hown5 hg5 hat5
    have hb5 : Below w4.heap.size w4 w5 := (Below.refl _ _).grown hg5 (Nat.le_refl _) (fun k hk => by simp [Value.ownBlock] at hk)
    have hl25 := hl21.then_ (below_then b14 hb5)
    have hob5 := own_blk hown5
    go_wp2_with (at_builtin; refine wpList_append_bs _ rfl _ _ 27 rfl w4.heap.size 5 i0 (.int .u8 0) Try.underlying27 hi hz0 hz1 hz2 rfl v5 (9 + n - k) _ rfl hown5 rfl hl25 ?_ ?_ ?_)
    · omega
    · exact hb5.size
    · intro v6 w6 hown6 hg6 hat6
      rw [← bv_append] at hown6
      have hb6 : Below w4.heap.size w4 w6 := hb5.grown hg6 hb5.size hob5
      obtain ⟨A6, c6, rfl, sw6⟩ := SW.of_own hown6
      go_wp2_with fail
      refine (add_is (k + (9 + n - k + n2) + 1) _ _ _ (hS4.below hb6) sw6 (by rw [HTL.out]; omega) (by omega) (by omega) (by rw [HTL.out]) HR.out).mono ?_
      rintro e w7 ⟨B7, d7, x7, A7, c7, rfl, hF7, hS7, hG7⟩
      have b16 := below_then b14 hb6
      have b17 : Below w1.heap.size w1 w7 := b16.grown hG7 b16.size (fun k hk => by injection hk with hk; rw [← hk]; exact hb2.size)
      have hl7 := hl1.then_ b17
      obtain ⟨gf, cf, Af, df, hvf, hcf1, hcf2, hgf, hcell, hsw⟩ := frs_first hF7
      injection hvf with e1 e2 e3
      clear e2 hcf2 hcf1
      subst e1
      subst e3
      have hsw' : SW w7 Af n df l := by rw [← hlen]; exact hsw
      have s1 := str_drawn hsw'
      have s2 := str_drawn hl7
      go_upto_region 17 with fail
      go_quiet ((refine (left_any (hS7.below (below_drewN (Below.refl _ _) _))).mono ?_; rintro e w' ⟨rfl, rfl⟩; exact ⟨rfl, _, rfl⟩))
      go_wp2_with fail
      go_ret
      exact ⟨rfl, below_drewN (below_then hb1 b17) _⟩
theorem waits_any {A A2 : Option Addr} {n c n2 c2 : Nat} {l l2 : List UInt8} (y : Int) (w : World) (hl : SW w A n c l) (hl2 : SW w A2 n2 c2 l2) (hy0 : 0 ≤ y) (hy1 : y < 256) :
    Calls Try.prog 12 #[.slice A n c, .int .u8 y, .slice A2 n2 c2] w fun e w' => e = .returned (.bool true) ∧ Below w.heap.size w w' := by
  by_cases h : 500 < n ∨ 8 < n2
  · exact waits_out y w hl hl2 h
  · exact waits_in y w hl hl2 (by omega) (by omega) hy0 hy1
end Go.Proofs.Ytiehhoonfneccaa
