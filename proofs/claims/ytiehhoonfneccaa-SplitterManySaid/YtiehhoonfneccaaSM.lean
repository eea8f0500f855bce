/- SplitterMany: the walk. No condition but that size is a byte, and stream a number of 16 bits. -/
import Derived.Test.YtiehhoonfneccaaSJ
namespace Go.Proofs.Ytiehhoonfneccaa
open Go.RowKit
theorem Spl.fresh_own {w w' : World} {p base n : Nat} {ver : Int} {v : Value} {xs : List Value} (h : Spl w p ver [] 0 none 0) (ho : w.ownsRow base 5 1 v n xs) (hg : w.grownBy w' v.ownBlock) : Spl w' p ver [] 0 none 0 :=
  ⟨(grown_typed ho hg h.row (by decide)).trans h.row, SW.nil _, fun a ha => by cases ha⟩
theorem many_out {A : Option Addr} {n c : Nat} {ps : List Part} (y z : Int) (w : World) (hps : PS w w.heap.size A n c ps) (hn : 12 < n) :
    Calls Try.prog 14 #[.slice A n c, .int .u8 y, .int .i16 z] w fun e w' => e = .returned (.bool true) ∧ Below w.heap.size w w' := by
  have hm := Nat.le_trans hps.cap hps.max
  unfold maxLen at hm
  go_enter Try.func14, Try.ntmps14
  go_wp2_with fail
  refine (awake6 _).mono ?_
  rintro e w1 ⟨rfl, hb1⟩
  go_wp2_with fail
  go_ret
  exact ⟨rfl, hb1⟩
set_option maxRecDepth 20000 in
set_option maxHeartbeats 3200000 in
theorem many_in {A : Option Addr} {n c : Nat} {ps : List Part} (y z : Int) (w : World) (hps : PS w w.heap.size A n c ps) (hn : n ≤ 12) (hy0 : 0 ≤ y) (hy1 : y < 256) (hz0' : -32768 ≤ z) (hz1' : z < 32768) :
    Calls Try.prog 14 #[.slice A n c, .int .u8 y, .int .i16 z] w fun e w' => e = .returned (.bool true) ∧ Below w.heap.size w w' := by
  obtain ⟨i0, hi, hz0, hz1, hz2⟩ := info_parts info_byte
  have hpl := hps.len
  obtain ⟨Y, rfl⟩ := Int.eq_ofNat_of_zero_le hy0
  go_enter Try.func14, Try.ntmps14
  go_wp2_with fail
  refine (awake6 _).mono ?_
  rintro e w1 ⟨rfl, hb1⟩
  go_wp2_with fail
  go_loopw [8, 9] (fun v i wr => ∃ (k N : Nat) (bs : List UInt8), k ≤ n ∧ i = .int .i64 k ∧ N ≤ 309 * k ∧ Hid (N = bs.length) ∧ Joined 4 0 z 10 ps k bs ∧ wr.ownsRow w1.heap.size 5 1 v N (bv bs) ∧ Below w1.heap.size w1 wr) (fun _ i _ => n - (intOf i).toNat)
  case atStart => exact ⟨0, 0, [], Nat.zero_le _, rfl, Nat.le_refl _, Lib.hid rfl, Joined.zero _ _ _ _ _, World.ownsRow_nil _ _ _ _, Below.refl _ _⟩
  case round =>
    obtain ⟨k, N, bs, hk, rfl, hN, hNb, hJ, hown, hb⟩ := hrel
    have hsz := hb.size
    by_cases hlt : k < n
    · obtain ⟨g, o, rfl, hg, hp⟩ := hps.at_ (by omega)
      have hkp : k < ps.length := by rw [hpl]; exact hlt
      obtain ⟨p, hpk⟩ : ∃ p, ps[k] = p := ⟨_, rfl⟩
      have hck := (hp.below (below_then hb1 hb) hg).cell k hkp
      have hbk := (hp.below (below_then hb1 hb) hg).bs k hkp
      rw [hpk] at hck hbk
      obtain ⟨A1, n1, c1, l1⟩ := p
      simp only at hck hbk
      have hm1 := Nat.le_trans (BS.cap hbk) (BS.max hbk)
      unfold maxLen at hm1
      have hbr : SW wr A1 n1 c1 l1 := BS.more hbk (below_then hb1 hb).size
      have hgr : g < wr.heap.size := Nat.lt_of_lt_of_le hg (below_then hb1 hb).size
      by_cases h3 : 300 < n1
      · go_wp2_with fail
        go_ret
        exact ⟨rfl, below_then hb1 hb⟩
      · have HBR := Lib.hid hbr
        have eW := Lib.hid (show IntKind.u32.wrap (n1 : Int) = n1 by rw [IntKind.wrap_u32]; omega)
        clear hm1
        go_wp2_with fail
        go_region_held3 (fun w' => w'.cell? ⟨g, o + k, none⟩ = some (.slice A1 n1 c1))
          (first | (refine keep_cell hck hgr ?_; (repeat' (first | exact Below.refl _ _ | assumption | refine below_new ?_ _ | refine Below.drew ?_ | refine below_then ?_ (by assumption)))))
          (first | (go_at_call 30; rw [eW.out]; refine (join_ok 4 0 z 10 _ (HBR.out.then_ (by first | exact (Below.refl _ _).drew | exact Below.refl _ _)) (by omega) (by omega) (by omega) (by omega) (by omega) (by omega) (by omega) (chk_4 10 (by decide) n1 (by omega))).mono ?_; rintro e w2 ⟨v2, rfl, hown2, hb2⟩))
        have hown2 : w2.ownsRow wr.heap.size 5 1 v2 (9 + n1) (bv (putH 4 0 z 10 (n1 : Int) ++ l1)) := hown2
        have hb02 : Below wr.heap.size wr w2 := below_then (w := wr.drew) (Below.refl wr.heap.size wr).drew hb2
        have hownb := own_below hown hb02
        have hobk := own_blk hown
        obtain ⟨A3, c3, rfl, sw3⟩ := SW.of_own hown2
        have hJ2 := hJ.succ (by omega) (by omega) (by omega) (by omega) (by omega) (by omega) (by omega) (by omega) hkp hpk (BS.len HBR.out) (by omega) (chk_4 10 (by decide) n1 (by omega))
        have HNN := Lib.hid (show N + (9 + n1) = (bs ++ (putH 4 0 z 10 (n1 : Int) ++ l1)).length by rw [List.length_append, List.length_append, putH_len, BS.len HBR.out, ← hNb.out])
        have HJ2 := Lib.hid hJ2
        clear hJ2 hpk hown hown2 hJ hck
        go_wp2_with (at_builtin; refine wpList_append_bs _ rfl _ _ 27 rfl w1.heap.size 5 i0 (.int .u8 0) Try.underlying27 hi hz0 hz1 hz2 rfl _ N (bv bs) rfl hownb rfl sw3 ?_ ?_ ?_)
        · omega
        · exact Nat.le_trans hsz hb02.size
        · intro v' w' hown' hg' hat
          rw [← bv_append] at hown'
          go_wp2_with fail
          exact ⟨⟨k + 1, N + (9 + n1), _, by omega, by go_num, by omega, HNN, HJ2.out, hown', (below_then hb hb02).grown hg' (Nat.le_trans hsz hb02.size) hobk⟩, by simp [intOf]; omega⟩
    · obtain rfl : k = n := by omega
      have hsp := hJ.sp hpl.symm []
      rw [List.append_nil, sp_nil, List.append_nil] at hsp
      obtain ⟨fs, hfs⟩ : ∃ fs, ps.map (jF 4 0 z 10) = fs := ⟨_, rfl⟩
      have hfl : fs.length = k := by rw [← hfs, List.length_map, hpl]
      rw [hfs] at hsp
      have HSP := Lib.hid hsp
      have HFS := Lib.hid hfs
      have hob0 := own_blk hown
      clear hsp hfs hJ
      go_wp2_with fail
      refine (new_any 4 _).mono ?_
      rintro e w2 ⟨rfl, hS2, hb2⟩
      have hown2 := own_below hown hb2
      have hb12 := below_then hb hb2
      obtain ⟨AJ, cJ, rfl, swJ⟩ := SW.of_own hown2
      obtain ⟨P, hP⟩ : ∃ P, wr.heap.size = P := ⟨_, rfl⟩
      rw [hP] at hS2 ⊢
      have hPb : w1.heap.size ≤ P := by rw [← hP]; exact hb.size
      clear hP
      go_wp2_with fail
      go_loopw [15, 13] (fun a v wr => ∃ (t m : Nat) (r : List UInt8) (A : Option Addr) (c : Nat), Spl wr P 4 r 0 A c ∧ a = .int .i64 t ∧ v = .int .i64 m ∧ t ≤ N + 256 ∧ m ≤ k ∧ r.length ≤ t ∧ Hid (sp 4 (bs.take t) = (fs.take m, r, 0)) ∧ wr.ownsRow w1.heap.size 5 1 (.slice AJ N cJ) N (bv bs) ∧ Below w1.heap.size w1 wr) (fun a _ _ => N + 300 - (intOf a).toNat)
      case atStart => exact ⟨0, 0, [], _, _, hS2, rfl, rfl, by omega, by omega, Nat.zero_le _, Lib.hid (sp_nil 4), hown2, hb12⟩
      case round =>
        obtain ⟨t, m, r, Ar, cr, hSr, rfl, rfl, ht, hm, hrl, hst, hownr, hbr⟩ := hrel
        have hbl : bs.length = N := hNb.out.symm
        by_cases htN : t < N
        · by_cases hTn : t + (Y + 1) ≤ N
          · obtain ⟨T, hT⟩ : ∃ T, t + (Y + 1) = T := ⟨_, rfl⟩
            have hTI : (t : Int) + ((Y : Int) + 1) = (T : Int) := by omega
            have hfm : m ≤ fs.length := by omega
            obtain ⟨g, r2, hg1, hg2, hg3, hg4⟩ := sp_step HSP.out hst.out hfm (show t ≤ T by omega)
            have HG1 := Lib.hid hg1
            have HG3 := Lib.hid hg3
            have HG4 := Lib.hid hg4
            obtain ⟨AJ', cJ', eJ, hswr⟩ := SW.of_own hownr
            injection eJ with eJ1 _ eJ3
            subst eJ1
            subst eJ3
            have htT : t < T := by omega
            have hTN : T ≤ N := by omega
            have hTY : T ≤ N + 256 := by omega
            have HTY := Lib.hid hT
            have hcJ := BS.cap hswr
            have hmJ := BS.max hswr
            unfold maxLen at hmJ
            obtain ⟨bJ, oJ, rfl, _⟩ := BS.at_ hswr (by omega)
            have hF := BS.from_ hswr (k := t) (by omega)
            rw [if_neg (by omega)] at hF
            simp only [Option.map_some, add_none] at hF
            have HPC := Lib.hid (show SW wr (some ⟨bJ, oJ + t, none⟩) (T - t) (cJ - t) ((bs.drop t).take (T - t)) from BS.upto hF (k := T - t) (by omega))
            have hpcl : ((bs.drop t).take (T - t)).length = T - t := by rw [List.length_take, List.length_drop]; omega
            have i1 : (T : Int) ≤ (cJ : Int) := by omega
            have i2 : (t : Int) ≤ (T : Int) := by omega
            have uc : ¬ cJ = t := by omega
            clear hg1 hg3 hg4 hT hF
            go_wp2_with fail
            refine (add_is (r.length + (T - t) + 1) g r2 0 hSr HPC.out (by omega) (by omega) (by omega) (by omega) (by rw [sp_is 4 _ (by rw [List.length_append, hpcl]; omega)]; exact HG1.out)).mono ?_
            rintro e w4 ⟨B4, d4, x4, A4, c4, rfl, hF4, hS4, hG4⟩
            have hr2 : r2.length ≤ T := by
              have := sp_len 4 _ (r ++ (bs.drop t).take (T - t)) (Nat.le_refl _)
              rw [HG1.out, List.length_append, hpcl] at this
              exact Nat.le_trans this (by omega)
            have b14 : Below w1.heap.size w1 w4 := hbr.grown hG4 hbr.size (fun q hq => by injection hq with hq; rw [← hq]; exact hPb)
            have hown4 := own_typed hownr hG4 hSr.row (by decide)
            obtain ⟨gl, hgl⟩ : ∃ gl, g.length = gl := ⟨_, rfl⟩
            rw [hgl] at hF4 HG3 ⊢
            have hmgk : m + gl ≤ k := by omega
            have HPC2 := HPC
            clear HPC hownr hSr hG4
            go_wp2_with fail
            go_loopw [19, 13] (fun i v wx => ∃ (j q M : Nat), j ≤ gl ∧ i = .int .i64 j ∧ v = .int .i64 (M : Int) ∧ Hid (M = m + j) ∧ wx = w4.drewN q) (fun i _ _ => gl - (intOf i).toNat)
            case atStart => exact ⟨0, 0, m, Nat.zero_le _, rfl, rfl, Lib.hid rfl, rfl⟩
            case round =>
              obtain ⟨j, q, M, hj, rfl, rfl, hM, rfl⟩ := hrel
              by_cases hjl : j < gl
              · have hgj : j < g.length := by omega
                obtain ⟨gf, Af, cf, rfl, f2, f5, fsw⟩ := frs_nth hF4 j hgj
                have hge := HG4.out j hgj
                obtain ⟨go_, oo, rfl, hgg, hpo⟩ := hps.at_ (by omega)
                have hMv := hM.out
                have hmj : M < ps.length := by omega
                have hpc := (hpo.below (below_then hb1 b14) hgg).cell M hmj
                have hpb := (hpo.below (below_then hb1 b14) hgg).bs M hmj
                rw [← hMv, ← HFS.out, List.getElem?_map, List.getElem?_eq_getElem hmj] at hge
                have hge2 := Option.some.inj hge
                obtain ⟨p, hpk⟩ : ∃ p, ps[M] = p := ⟨_, rfl⟩
                rw [hpk] at hpc hpb hge2
                obtain ⟨A5, n5, c5, l5⟩ := p
                simp only at hpc hpb
                rw [← hge2] at f2 f5 fsw
                simp only [jF] at f2 f5 fsw
                rw [hpb.len] at f5 fsw
                have s1 := str_drawn fsw
                have s2 := str_drawn hpb
                have hmi : ¬ ((k : Int) ≤ (M : Int)) := by omega
                have hmn : ¬ k ≤ M := by omega
                have hmM : M < k := by omega
                have HM2 := Lib.hid (show M + 1 = m + (j + 1) by omega)
                clear hge hge2 hpk hMv
                go_wp2_with fail
                go_quiet (fail)
                go_wp2_with fail
                exact ⟨⟨j + 1, q + nq, M + 1, by omega, by go_num, by go_num, HM2, by simp [World.drewN, Nat.add_assoc]⟩, by simp [intOf]; omega⟩
              · obtain rfl : j = gl := by omega
                obtain rfl := hM.out
                go_wp2_with fail
                exact ⟨⟨T, m + j, r2, _, _, hS4.below (below_drewN (Below.refl _ _) _), rfl, rfl, hTY, hmgk, hr2, HG3, own_below hown4 (below_drewN (Below.refl _ _) _), below_drewN b14 _⟩, by simp [intOf]; omega⟩
          · obtain ⟨T2, hT⟩ : ∃ T2, t + (Y + 1) = T2 := ⟨_, rfl⟩
            have hTI : (t : Int) + ((Y : Int) + 1) = (T2 : Int) := by omega
            have hT2N : N < T2 := by omega
            have hfm : m ≤ fs.length := by omega
            obtain ⟨g, r2, hg1, hg2, hg3, hg4⟩ := sp_step HSP.out hst.out hfm (show t ≤ N by omega)
            have HG1 := Lib.hid hg1
            have HG3 := Lib.hid hg3
            have HG4 := Lib.hid hg4
            obtain ⟨AJ', cJ', eJ, hswr⟩ := SW.of_own hownr
            injection eJ with eJ1 _ eJ3
            subst eJ1
            subst eJ3
            have htT : t < N := by omega
            have hTY : T2 ≤ N + 256 := by omega
            have HTY := Lib.hid hT
            have hcJ := BS.cap hswr
            have hmJ := BS.max hswr
            unfold maxLen at hmJ
            obtain ⟨bJ, oJ, rfl, _⟩ := BS.at_ hswr (by omega)
            have hF := BS.from_ hswr (k := t) (by omega)
            rw [if_neg (by omega)] at hF
            simp only [Option.map_some, add_none] at hF
            have HPC := Lib.hid (show SW wr (some ⟨bJ, oJ + t, none⟩) (N - t) (cJ - t) ((bs.drop t).take (N - t)) from BS.upto hF (k := N - t) (by omega))
            have hpcl : ((bs.drop t).take (N - t)).length = N - t := by rw [List.length_take, List.length_drop]; omega
            have i1 : (N : Int) ≤ (cJ : Int) := by omega
            have i2 : (t : Int) ≤ (N : Int) := by omega
            have uc : ¬ cJ = t := by omega
            clear hg1 hg3 hg4 hT hF
            go_wp2_with fail
            refine (add_is (r.length + (N - t) + 1) g r2 0 hSr HPC.out (by omega) (by omega) (by omega) (by omega) (by rw [sp_is 4 _ (by rw [List.length_append, hpcl]; omega)]; exact HG1.out)).mono ?_
            rintro e w4 ⟨B4, d4, x4, A4, c4, rfl, hF4, hS4, hG4⟩
            have hr2 : r2.length ≤ N := by
              have := sp_len 4 _ (r ++ (bs.drop t).take (N - t)) (Nat.le_refl _)
              rw [HG1.out, List.length_append, hpcl] at this
              exact Nat.le_trans this (by omega)
            have b14 : Below w1.heap.size w1 w4 := hbr.grown hG4 hbr.size (fun q hq => by injection hq with hq; rw [← hq]; exact hPb)
            have hown4 := own_typed hownr hG4 hSr.row (by decide)
            obtain ⟨gl, hgl⟩ : ∃ gl, g.length = gl := ⟨_, rfl⟩
            rw [hgl] at hF4 HG3 ⊢
            have hmgk : m + gl ≤ k := by omega
            have HPC2 := HPC
            clear HPC hownr hSr hG4
            go_wp2_with fail
            go_loopw [19, 13] (fun i v wx => ∃ (j q M : Nat), j ≤ gl ∧ i = .int .i64 j ∧ v = .int .i64 (M : Int) ∧ Hid (M = m + j) ∧ wx = w4.drewN q) (fun i _ _ => gl - (intOf i).toNat)
            case atStart => exact ⟨0, 0, m, Nat.zero_le _, rfl, rfl, Lib.hid rfl, rfl⟩
            case round =>
              obtain ⟨j, q, M, hj, rfl, rfl, hM, rfl⟩ := hrel
              by_cases hjl : j < gl
              · have hgj : j < g.length := by omega
                obtain ⟨gf, Af, cf, rfl, f2, f5, fsw⟩ := frs_nth hF4 j hgj
                have hge := HG4.out j hgj
                obtain ⟨go_, oo, rfl, hgg, hpo⟩ := hps.at_ (by omega)
                have hMv := hM.out
                have hmj : M < ps.length := by omega
                have hpc := (hpo.below (below_then hb1 b14) hgg).cell M hmj
                have hpb := (hpo.below (below_then hb1 b14) hgg).bs M hmj
                rw [← hMv, ← HFS.out, List.getElem?_map, List.getElem?_eq_getElem hmj] at hge
                have hge2 := Option.some.inj hge
                obtain ⟨p, hpk⟩ : ∃ p, ps[M] = p := ⟨_, rfl⟩
                rw [hpk] at hpc hpb hge2
                obtain ⟨A5, n5, c5, l5⟩ := p
                simp only at hpc hpb
                rw [← hge2] at f2 f5 fsw
                simp only [jF] at f2 f5 fsw
                rw [hpb.len] at f5 fsw
                have s1 := str_drawn fsw
                have s2 := str_drawn hpb
                have hmi : ¬ ((k : Int) ≤ (M : Int)) := by omega
                have hmn : ¬ k ≤ M := by omega
                have hmM : M < k := by omega
                have HM2 := Lib.hid (show M + 1 = m + (j + 1) by omega)
                clear hge hge2 hpk hMv
                go_wp2_with fail
                go_quiet (fail)
                go_wp2_with fail
                exact ⟨⟨j + 1, q + nq, M + 1, by omega, by go_num, by go_num, HM2, by simp [World.drewN, Nat.add_assoc]⟩, by simp [intOf]; omega⟩
              · obtain rfl : j = gl := by omega
                obtain rfl := hM.out
                go_wp2_with fail
                exact ⟨⟨T2, m + j, r2, _, _, hS4.below (below_drewN (Below.refl _ _) _), rfl, rfl, hTY, hmgk, Nat.le_trans hr2 (Nat.le_of_lt hT2N), Lib.hid (by rw [List.take_of_length_le (by omega)]; have := HG3.out; rwa [List.take_of_length_le (by omega)] at this), own_below hown4 (below_drewN (Below.refl _ _) _), below_drewN b14 _⟩, by simp [intOf]; omega⟩
        · have h1 := hst.out
          rw [List.take_of_length_le (by omega), HSP.out] at h1
          simp only [Prod.mk.injEq] at h1
          obtain ⟨e1, e2, -⟩ := h1
          have hmk : m = k := by
            have := congrArg List.length e1
            rw [List.length_take, hfl] at this
            omega
          subst hmk
          subst e2
          clear e1
          go_wp2_with fail
          refine (left_any hSr).mono ?_
          rintro e w5 ⟨rfl, rfl⟩
          go_wp2_with fail
          go_ret
          exact ⟨rfl, below_then hb1 hbr⟩
theorem many_any {A : Option Addr} {n c : Nat} {ps : List Part} (y z : Int) (w : World) (hps : PS w w.heap.size A n c ps) (hy0 : 0 ≤ y) (hy1 : y < 256) (hz0' : -32768 ≤ z) (hz1' : z < 32768) :
    Calls Try.prog 14 #[.slice A n c, .int .u8 y, .int .i16 z] w fun e w' => e = .returned (.bool true) ∧ Below w.heap.size w w' := by
  by_cases h : 12 < n
  · exact many_out y z w hps h
  · exact many_in y z w hps (by omega) hy0 hy1 hz0' hz1'
end Go.Proofs.Ytiehhoonfneccaa
