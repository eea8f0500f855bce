/- SplitterWrong: the walk. Where more's memory takes at most 2^47; no other condition but that flags is a byte. -/
import Derived.Test.YtiehhoonfneccaaSI
namespace Go.Proofs.Ytiehhoonfneccaa
open Go.RowKit
theorem Spl.fresh_own {w w' : World} {p base n : Nat} {ver : Int} {v : Value} {xs : List Value} (h : Spl w p ver [] 0 none 0) (ho : w.ownsRow base 5 1 v n xs) (hg : w.grownBy w' v.ownBlock) : Spl w' p ver [] 0 none 0 :=
  ⟨(grown_typed ho hg h.row (by decide)).trans h.row, SW.nil _, fun a ha => by cases ha⟩
theorem wrong_out {A A2 : Option Addr} {n c n2 c2 : Nat} {ps : List Part} {l2 : List UInt8} (y : Int) (w : World) (hps : PS w w.heap.size A n c ps) (hl2 : SW w A2 n2 c2 l2) (hn : 8 < n ∨ 500 < n2) :
    Calls Try.prog 13 #[.slice A n c, .int .u8 y, .slice A2 n2 c2] w fun e w' => e = .returned (.bool true) ∧ Below w.heap.size w w' := by
  have hm := Nat.le_trans hps.cap hps.max
  have hm2 := Nat.le_trans (BS.cap hl2) (BS.max hl2)
  unfold maxLen at hm hm2
  by_cases h5 : 8 < n
  · go_enter Try.func13, Try.ntmps13
    go_wp2_with fail
    refine (awake6 _).mono ?_
    rintro e w1 ⟨rfl, hb1⟩
    go_wp2_with fail
    go_ret
    exact ⟨rfl, hb1⟩
  · have h8 : 500 < n2 := by omega
    go_enter Try.func13, Try.ntmps13
    go_wp2_with fail
    refine (awake6 _).mono ?_
    rintro e w1 ⟨rfl, hb1⟩
    go_wp2_with fail
    go_ret
    exact ⟨rfl, hb1⟩
set_option maxRecDepth 20000 in
set_option maxHeartbeats 3200000 in
theorem wrong_in {A A2 : Option Addr} {n c n2 c2 : Nat} {ps : List Part} {l2 : List UInt8} (y : Int) (w : World) (hps : PS w w.heap.size A n c ps) (hl2 : SW w A2 n2 c2 l2) (hn : n ≤ 8) (hn2 : n2 ≤ 500) (hy0 : 0 ≤ y) (hy1 : y < 256) :
    Calls Try.prog 13 #[.slice A n c, .int .u8 y, .slice A2 n2 c2] w fun e w' => e = .returned (.bool true) ∧ Below w.heap.size w w' := by
  obtain ⟨i0, hi, hz0, hz1, hz2⟩ := info_parts info_byte
  have hlen2 := BS.len hl2
  have hpl := hps.len
  obtain ⟨fb0, fb1, fb2⟩ := flags_or hy0 hy1
  obtain ⟨F, hF⟩ : ∃ F, bits .or .u8 y 1 = F := ⟨_, rfl⟩
  rw [hF] at fb0 fb1 fb2
  obtain ⟨b, hb8⟩ : ∃ b : UInt8, (b.toNat : Int) = F := ⟨UInt8.ofNat F.toNat, by simp only [UInt8.toNat_ofNat']; omega⟩
  have hwr := sp_wrong b (by rw [hb8]; exact fb2) l2
  have HW := Lib.hid hwr
  have HB8 := Lib.hid hb8
  clear hwr hb8 fb2
  go_enter Try.func13, Try.ntmps13
  go_wp2_with fail
  refine (awake6 _).mono ?_
  rintro e w1 ⟨rfl, hb1⟩
  go_wp2_with fail
  go_loopw [8, 9] (fun v i wr => ∃ (k N : Nat) (bs : List UInt8), k ≤ n ∧ i = .int .i64 k ∧ N ≤ 309 * k ∧ Hid (N = bs.length) ∧ Joined 132 0 0 2 ps k bs ∧ wr.ownsRow w1.heap.size 5 1 v N (bv bs) ∧ Below w1.heap.size w1 wr) (fun _ i _ => n - (intOf i).toNat)
  case atStart => exact ⟨0, 0, [], Nat.zero_le _, rfl, Nat.le_refl _, Lib.hid rfl, Joined.zero _ _ _ _ _, World.ownsRow_nil _ _ _ _, Below.refl _ _⟩
  case round =>
    obtain ⟨k, N, bs, hk, rfl, hN, hNb, hJ, hown, hb⟩ := hrel
    have hsz := hb.size
    by_cases hlt : k < n
    · obtain ⟨g, o, rfl, hg, hp⟩ := hps.at_ (by omega)
      have hkp : k < ps.length := by rw [hpl]; exact hlt
      obtain ⟨p, hpk⟩ : ∃ p, ps[k] = p := ⟨_, rfl⟩
      have hck := (hp.below (below_then hb1 hb) hg).cell k hkp
      have hbk := (hp.below (below_then hb1 hb) hg).bs k hkp
      rw [hpk] at hck hbk
      obtain ⟨A1, n1, c1, l1⟩ := p
      simp only at hck hbk
      have hm1 := Nat.le_trans (BS.cap hbk) (BS.max hbk)
      unfold maxLen at hm1
      have hbr : SW wr A1 n1 c1 l1 := BS.more hbk (below_then hb1 hb).size
      have hgr : g < wr.heap.size := Nat.lt_of_lt_of_le hg (below_then hb1 hb).size
      by_cases h3 : 300 < n1
      · go_wp2_with fail
        go_ret
        exact ⟨rfl, below_then hb1 hb⟩
      · have HBR := Lib.hid hbr
        have eW := Lib.hid (show IntKind.u32.wrap (n1 : Int) = n1 by rw [IntKind.wrap_u32]; omega)
        clear hm1
        go_wp2_with fail
        go_region_held3 (fun w' => w'.cell? ⟨g, o + k, none⟩ = some (.slice A1 n1 c1))
          (first | (refine keep_cell hck hgr ?_; (repeat' (first | exact Below.refl _ _ | assumption | refine below_new ?_ _ | refine Below.drew ?_ | refine below_then ?_ (by assumption)))))
          (first | (go_at_call 30; rw [eW.out]; refine (join_ok 132 0 0 2 _ (HBR.out.then_ (by first | exact (Below.refl _ _).drew | exact Below.refl _ _)) (by omega) (by omega) (by omega) (by omega) (by omega) (by omega) (by omega) (chk_132 2 (by decide) n1 (by omega))).mono ?_; rintro e w2 ⟨v2, rfl, hown2, hb2⟩))
        have hown2 : w2.ownsRow wr.heap.size 5 1 v2 (9 + n1) (bv (putH 132 0 0 2 (n1 : Int) ++ l1)) := hown2
        have hb02 : Below wr.heap.size wr w2 := below_then (w := wr.drew) (Below.refl wr.heap.size wr).drew hb2
        have hownb := own_below hown hb02
        have hobk := own_blk hown
        obtain ⟨A3, c3, rfl, sw3⟩ := SW.of_own hown2
        have hJ2 := hJ.succ (by omega) (by omega) (by omega) (by omega) (by omega) (by omega) (by omega) (by omega) hkp hpk (BS.len HBR.out) (by omega) (chk_132 2 (by decide) n1 (by omega))
        have HNN := Lib.hid (show N + (9 + n1) = (bs ++ (putH 132 0 0 2 (n1 : Int) ++ l1)).length by rw [List.length_append, List.length_append, putH_len, BS.len HBR.out, ← hNb.out])
        have HJ2 := Lib.hid hJ2
        clear hJ2 hpk hown hown2 hJ hck
        go_wp2_with (at_builtin; refine wpList_append_bs _ rfl _ _ 27 rfl w1.heap.size 5 i0 (.int .u8 0) Try.underlying27 hi hz0 hz1 hz2 rfl _ N (bv bs) rfl hownb rfl sw3 ?_ ?_ ?_)
        · omega
        · exact Nat.le_trans hsz hb02.size
        · intro v' w' hown' hg' hat
          rw [← bv_append] at hown'
          go_wp2_with fail
          exact ⟨⟨k + 1, N + (9 + n1), _, by omega, by go_num, by omega, HNN, HJ2.out, hown', (below_then hb hb02).grown hg' (Nat.le_trans hsz hb02.size) hobk⟩, by simp [intOf]; omega⟩
    · obtain rfl : k = n := by omega
      have hsp := hJ.sp hpl.symm ([132, b, 0, 0, 2, 0, 0, 0, 0] ++ l2)
      rw [HW.out, List.append_nil] at hsp
      obtain ⟨fs, hfs⟩ : ∃ fs, ps.map (jF 132 0 0 2) = fs := ⟨_, rfl⟩
      have hfl : fs.length = k := by rw [← hfs, List.length_map, hpl]
      rw [hfs] at hsp
      have HSP := Lib.hid hsp
      have HFL := Lib.hid hfl
      have hob0 := own_blk hown
      have hlb : SW (wr.alloc (.cells #[.int .u8 132, .int .u8 F, .int .u8 0, .int .u8 0, .int .u8 2, .int .u8 0, .int .u8 0, .int .u8 0, .int .u8 0] 5)) (some ⟨wr.heap.size, 0, none⟩) 9 9 [132, b, 0, 0, 2, 0, 0, 0, 0] := by
        refine SW.lit wr 5 _ _ _ rfl ?_ 9 rfl (by simp [maxLen])
        simp [bv, HB8.out]
      have HLB := Lib.hid hlb
      clear hsp hfs hfl hlb hJ
      go_wp2_with (at_builtin; refine wpList_append_bs _ rfl _ _ 27 rfl w1.heap.size 5 i0 (.int .u8 0) Try.underlying27 hi hz0 hz1 hz2 rfl _ N (bv bs) rfl (hown.alloc _) rfl HLB.out ?_ ?_ ?_)
      · omega
      · first | omega | (simp; omega)
      · intro v3 w3 hown3 hg3 hat3
        rw [← bv_append] at hown3
        have hb3 : Below w1.heap.size w1 w3 := (below_new hb _).grown hg3 (by simp; omega) hob0
        have hob3 := own_blk hown3
        have hl2 := hl2.then_ (below_then hb1 hb3)
        go_wp2_with fail
        refine (new_any 132 _).mono ?_
        rintro e w4 ⟨rfl, hS4, hb4⟩
        have hown4 := own_below hown3 hb4
        have hl4 := hl2.then_ hb4
        have hsz4 := (below_then hb3 hb4).size
        go_wp2_with (at_builtin; refine wpList_append_bs _ rfl _ _ 27 rfl w1.heap.size 5 i0 (.int .u8 0) Try.underlying27 hi hz0 hz1 hz2 rfl _ (N + 9) _ rfl hown4 rfl hl4 ?_ ?_ ?_)
        · omega
        · exact hsz4
        · intro v5 w5 hown5 hg5 hat5
          rw [← bv_append, List.append_assoc] at hown5
          have hS5 := hS4.fresh_own hown4 hg5
          have hb5 : Below w1.heap.size w1 w5 := (below_then hb3 hb4).grown hg5 hsz4 (own_blk hown4)
          obtain ⟨A5, c5, rfl, sw5⟩ := SW.of_own hown5
          have hl5 := BS.len sw5
          have HSP5 := Lib.hid ((sp_is 132 (bs ++ ([132, b, 0, 0, 2, 0, 0, 0, 0] ++ l2)) (k := N + 9 + n2 + 1) (by rw [hl5]; omega)).trans HSP.out)
          clear hown5 hown4 hown3 hl5 hl4 hl2
          go_wp2_with fail
          refine (add_is (N + 9 + n2 + 1) fs [] 21 hS5 sw5 (by simp; omega) (by omega) (by omega) (by simp) (by rw [List.nil_append]; exact HSP5.out)).mono ?_
          rintro e w6 ⟨B6, d6, x6, A6, c6, rfl, hF6, hS6, hG6⟩
          rw [HFL.out]
          have hS5' := hS6
          go_wp2_with fail
          refine (add_err hS6 (by omega)).mono ?_
          rintro e w7 ⟨rfl, hb7⟩
          have hS7 := hS6.below hb7
          have hb17 : Below w1.heap.size w1 w7 := below_then (hb5.grown hG6 hb5.size (fun k hk => by injection hk with hk; rw [← hk]; exact hb3.size)) hb7
          go_wp2_with fail
          refine (left_any hS7).mono ?_
          rintro e w8 ⟨rfl, rfl⟩
          go_wp2_with fail
          go_ret
          exact ⟨rfl, below_then hb1 hb17⟩
theorem wrong_any {A A2 : Option Addr} {n c n2 c2 : Nat} {ps : List Part} {l2 : List UInt8} (y : Int) (w : World) (hps : PS w w.heap.size A n c ps) (hl2 : SW w A2 n2 c2 l2) (hy0 : 0 ≤ y) (hy1 : y < 256) :
    Calls Try.prog 13 #[.slice A n c, .int .u8 y, .slice A2 n2 c2] w fun e w' => e = .returned (.bool true) ∧ Below w.heap.size w w' := by
  by_cases h : 8 < n ∨ 500 < n2
  · exact wrong_out y w hps hl2 h
  · exact wrong_in y w hps hl2 (by omega) (by omega) hy0 hy1
end Go.Proofs.Ytiehhoonfneccaa
