/- prepared: PreparedBounds of a number above nought. No condition. -/
import Derived.Test.YtfcopniihcaefaaPR
namespace Go.Proofs.Ytfcopniihcaefaa
open Go.RowKit
set_option maxRecDepth 100000 in
set_option maxHeartbeats 1000000 in
theorem bounds_pos {A : Option Addr} {N c : Nat} {es : List En} (n : Int) (hn1 : -128 ≤ n) (hn2 : n ≤ 127) (hpos : 0 < n) (w : World) (hl : LS w w.heap.size A N c es) : Calls Try.prog 4 #[.int .i8 n, .slice A N c] w fun r w' => r = .returned (.bool true) ∧ Below w.heap.size w w' := by
  have HL := Lib.hid hl
  have hnm := hl.max
  have hnc := hl.cap
  have hnl := hl.len
  unfold maxLen at hnm
  clear hl
  go_enter Try.func4, Try.ntmps4
  go_wp2_with fail
  refine (awake20 _).mono ?_
  rintro _ w1 ⟨rfl, hb1⟩
  go_wp2_with fail
  refine (put_none _).mono ?_
  rintro _ w3 ⟨rfl, hb3⟩
  have hb3 := below_then hb1 hb3
  go_wp2_with fail
  refine (text_none [] _).mono ?_
  rintro _ w4 ⟨rfl, hb4⟩
  have hb4 := below_new (below_then hb3 hb4) (.cells #[.string ⟨[].toArray⟩, .string ⟨[].toArray⟩, .slice none 0 0] 31)
  go_wp2_with fail
  refine (id_none [] _).mono ?_
  rintro _ w5 ⟨rfl, hb5⟩
  have hb5 := below_new (below_then hb4 hb5) (.cells #[.string ⟨[].toArray⟩, .string ⟨[].toArray⟩, .slice none 0 0] 31)
  go_wp2_with fail
  refine (drop_none [] _).mono ?_
  rintro _ w6 ⟨rfl, hb6⟩
  have hb6 := below_then hb5 hb6
  go_wp2_with fail
  refine (all_none _).mono ?_
  rintro _ w7 ⟨rfl, rfl⟩
  have HB6 := Lib.hid hb6
  clear hb1 hb3 hb4 hb5 hb6
  obtain ⟨m, hm⟩ : ∃ m : Nat, max n 0 = (m : Int) := ⟨(max n 0).toNat, by omega⟩
  go_wp2_with fail
  refine (new_k n m _ hm).mono ?_
  rintro _ w2 ⟨rfl, hc2, hb2⟩
  obtain ⟨P, hP⟩ : ∃ P, w7.heap.size = P := ⟨_, rfl⟩
  have hwP : w.heap.size ≤ P := by rw [← hP]; exact HB6.out.size
  rw [hP] at hc2 hb2 ⊢
  have HB2 := Lib.hid (HB6.out.trans (hb2.mono hwP))
  have HC2 := Lib.hid hc2
  have hP2 : P < w2.heap.size := hc2.le
  clear hc2 hb2 hP
  obtain rfl : n = (m : Int) := by omega
  have hm0 : 0 < m := by omega
  have hm1 : m ≤ 127 := by omega
  have hgt : decide ((0 : Int) < (m : Int)) = true := decide_eq_true (by omega)
  clear hm hn1 hn2
  go_wp2_with fail
  go_loopw [12] (fun x wr => ∃ (k : Nat) (v : Value) (L : List KE), k ≤ N ∧ k ≤ 40 ∧ x = .int .i64 k ∧ Hid (CK wr (P + 1) P m v L) ∧ Hid (UQ L) ∧ L.length ≤ m ∧ Hid (Below P w2 wr)) (fun x _ => N - (intOf x).toNat)
  case atStart => exact ⟨0, _, [], Nat.zero_le _, by omega, rfl, HC2, Lib.hid List.Pairwise.nil, Nat.zero_le _, Lib.hid (Below.refl _ _)⟩
  case round =>
    obtain ⟨k, v, L, hk, hk40, rfl, hC, hU, hLl, hB⟩ := hrel
    have HBW := Lib.hid (HB2.out.trans (hB.out.mono hwP))
    by_cases hlt : k < N
    · have hz3 : (k : Int) < (N : Int) := by omega
      by_cases hlt4 : k < 40
      · have hz4 : (k : Int) < 40 := by omega
        obtain ⟨g, o, rfl, hg, hes⟩ := HL.out.at_ (by omega)
        obtain ⟨s0, s1, s2⟩ := hes.en k (by omega)
        have hus := HL.out.us es[k] (List.getElem_mem _)
        obtain ⟨x, hx⟩ : ∃ x, es[k]'(by omega) = x := ⟨_, rfl⟩
        rw [hx] at s0 s1 s2 hus
        have hgP : g < P := by omega
        have HCE := Lib.hid (show ∀ w', Below w.heap.size w w' → w'.cell? ⟨g, o + k * 3, none⟩ = some (.string ⟨x.t.toArray⟩) ∧ w'.cell? ⟨g, o + k * 3 + 1, none⟩ = some (.string ⟨x.i.toArray⟩) ∧ w'.cell? ⟨g, o + k * 3 + 2, none⟩ = some (.slice x.A x.n x.c) ∧ g < w'.heap.size ∧ US w' w.heap.size x.A x.n x.c x.ks from fun w' hb => ⟨(hb.cell (p := ⟨g, o + k * 3, none⟩) hg).trans s0, (hb.cell (p := ⟨g, o + k * 3 + 1, none⟩) hg).trans s1, (hb.cell (p := ⟨g, o + k * 3 + 2, none⟩) hg).trans s2, Nat.lt_of_lt_of_le hg hb.size, hus.below hb⟩)
        have HXN := Lib.hid hus.len
        clear hes hus hx s0 s1 s2
        obtain ⟨s0, s1, s2, hgr, hus⟩ := HCE.out wr HBW.out
        have HUS := Lib.hid hus
        clear hus
        by_cases h3 : 50 < x.n
        · have hz5 : (50 : Int) < (x.n : Int) := by omega
          go_wp2_with fail
          go_ret
          exact ⟨rfl, HBW.out⟩
        · have hz5 : ¬ ((50 : Int) < (x.n : Int)) := by omega
          go_wp2_with fail
          refine (put_k x.t x.i x.A x.n x.c x.ks _ hC.out HUS.out (by omega) (by omega) (by omega)).mono ?_
          rintro _ w3 ⟨rfl, v3, hc3, hk3⟩
          have hl3 := putK_len m (x.t, x.i, x.ks) L
          have hu3 := hU.out.put m (x.t, x.i, x.ks)
          obtain ⟨R, hR, _⟩ := putK_cons hm0 (x.t, x.i, x.ks) L
          rw [hR] at hc3 hl3 hu3
          obtain ⟨ht1, ht2, ht3⟩ := text_self (x.t, x.i, x.ks) R
          obtain ⟨L3, hL3⟩ : ∃ L3, ((x.t, x.i, x.ks) : KE) :: R = L3 := ⟨_, rfl⟩
          rw [hL3] at hc3 hl3 hu3 ht1 ht2 ht3
          have hbb := hC.out.kw_below hk3 (Nat.le_refl _)
          have HC3 := Lib.hid hc3
          have HU3 := Lib.hid hu3
          have HT1 := Lib.hid ht1
          have HT2 := Lib.hid ht2
          have HT3 := Lib.hid ht3
          have HB3 := Lib.hid (hB.out.trans hbb)
          have t0 := (hbb.cell (p := ⟨g, o + k * 3, none⟩) hgP).trans s0
          have t1 := (hbb.cell (p := ⟨g, o + k * 3 + 1, none⟩) hgP).trans s1
          clear hc3 hk3 hbb s0 s1 s2 hu3 ht1 ht2 ht3 hR hL3
          go_wp2_with fail
          refine (text_kk x.t _ HC3.out (by omega)).mono ?_
          rintro r w4 ⟨⟨es4, hca4, hm4, hko4, hv4⟩, hk4, hg4⟩
          rw [HT2.out] at hg4
          rw [HT1.out] at hm4
          obtain ⟨A4, c4, rfl, hkx⟩ := hg4
          simp only at hkx
          have hbb := HC3.out.kw_below hk4 (Nat.le_refl _)
          have b5 := below_new (Below.refl w4.heap.size w4) (.cells #[.string ⟨x.t.toArray⟩, .string ⟨x.i.toArray⟩, .slice A4 x.ks.length c4] 31)
          have hle4 := hca4.le
          have hb45 : Below P w3 (w4.alloc (.cells #[.string ⟨x.t.toArray⟩, .string ⟨x.i.toArray⟩, .slice A4 x.ks.length c4] 31)) := hbb.trans (b5.mono (by omega))
          have hw34 : w3.heap.size ≤ w4.heap.size := hk4.size
          have HCA5 := Lib.hid (hca4.below b5)
          have HM4 := Lib.hid hm4
          have HKO4 := Lib.hid hko4
          have HV4 := Lib.hid hv4
          have HKX5 := Lib.hid (hkx.below b5)
          have HB5 := Lib.hid (HB3.out.trans hb45)
          have HX5 := Lib.hid (Row.new w4 31 #[.string ⟨x.t.toArray⟩, .string ⟨x.i.toArray⟩, .slice A4 x.ks.length c4])
          have u0 := (hb45.cell (p := ⟨g, o + k * 3, none⟩) hgP).trans t0
          have u1 := (hb45.cell (p := ⟨g, o + k * 3 + 1, none⟩) hgP).trans t1
          have HXL := Lib.hid (show ∀ gk, (Value.slice A4 x.ks.length c4).ownBlock = some gk → w3.heap.size ≤ gk ∧ gk < w4.heap.size from fun gk hgk => World.ownsRow.lt hkx.row gk hgk)
          clear hca4 hm4 hko4 hv4 hk4 hbb b5 hb45 t0 t1 hkx
          go_upto_region 18 with fail
          obtain ⟨w5, hw5⟩ : ∃ w5, w4.alloc (.cells #[.string ⟨x.t.toArray⟩, .string ⟨x.i.toArray⟩, .slice A4 x.ks.length c4] 31) = w5 := ⟨_, rfl⟩
          rw [hw5] at HCA5 HB5 HX5 HKX5 u0 u1
          rw [hw5]
          have hw45 : w4.heap.size < w5.heap.size := by rw [← hw5]; simp
          clear hw5
          obtain ⟨x0, x1, x2, x3⟩ := HX5.out.three
          go_quiet (fail)
          have b6 := below_drewN (Below.refl w5.heap.size w5) nq
          obtain ⟨w6, hw6⟩ : ∃ w6, w5.drewN nq = w6 := ⟨_, rfl⟩
          rw [hw6] at b6 ⊢
          have HCA6 := Lib.hid (HCA5.out.below b6)
          have HB6 := Lib.hid (HB5.out.trans (b6.mono (by omega)))
          have HKX6 := Lib.hid (HKX5.out.below b6)
          have HX6 := Lib.hid (HX5.out.below b6 HX5.out.lt)
          have hP3 : P < w3.heap.size := HC3.out.le
          have hw56 : w5.heap.size ≤ w6.heap.size := b6.size
          obtain ⟨nk, hnk⟩ : ∃ nk, x.ks.length = nk := ⟨_, rfl⟩
          rw [hnk] at HX6 HKX6 HXL
          have hnk2 : nk ≤ 50 := by have := HXN.out; omega
          have HNKE := Lib.hid hnk
          clear b6 hw6 HCA5 HB5 HKX5 HX5 u0 u1 x0 x1 x2 x3 hnk
          go_wp2_with fail
          go_loopw [15] (fun y wr => ∃ (j : Nat) (ks' : List Nat), j ≤ nk ∧ y = .int .i64 j ∧ ks'.length = nk ∧ Hid (KO wr w3.heap.size ⟨x.t, x.i, A4, nk, c4, ks'⟩) ∧ Hid (w6.grownBy wr (Value.slice A4 nk c4).ownBlock)) (fun y _ => nk - (intOf y).toNat)
          case atStart => exact ⟨0, x.ks, Nat.zero_le _, rfl, HNKE.out, HKX6, Lib.hid (below_grown (Below.refl _ _) _)⟩
          case round =>
            obtain ⟨j, ks', hj, rfl, hkl, hKr, hGr⟩ := hrel
            have hXr := HX6.out.grown hGr.out (fun e => by have := (HXL.out _ e.symm).2; omega)
            obtain ⟨x0, x1, x2, x3⟩ := hXr.three
            by_cases hjl : j < nk
            · have hzj : (j : Int) < (nk : Int) := by omega
              obtain ⟨gk, hA, hgb, hgl, hcell, hfr⟩ := hKr.out.at_ (by simp only; omega)
              simp only at hA hcell
              subst hA
              have kc := hcell j (by omega)
              have kf := hfr j
              obtain ⟨z, hz⟩ : ∃ z, ks'[j]'(by omega) = z := ⟨_, rfl⟩
              rw [hz] at kc
              have hzr : z < 65536 := by rw [← hz]; exact hKr.out.rng _ (List.getElem_mem _)
              obtain ⟨z', hwz, hzb⟩ := wrap_u16_nat ((z : Int) + 1)
              obtain ⟨hs1, hs2⟩ := hKr.out.stored j z' hzb
              have HS1 := Lib.hid hs1
              have HS2 := Lib.hid (grown_then hGr.out hs2)
              clear hs1 hs2 hXr hcell hfr hz
              go_wp2_with fail
              exact ⟨⟨j + 1, ks'.set j z', by omega, by go_num, by simp [hkl], HS1, HS2⟩, by simp [intOf]; omega⟩
            · obtain rfl : j = nk := by omega
              have hzj : ¬ ((j : Int) < (j : Int)) := by omega
              have hca := HCA6.out.written HKO4.out hP3 HV4.out (fun g hg => (HXL.out g hg).1) hGr.out
              have HCr := Lib.hid (show CK wr (P + 1) P m v3 L3 from ⟨⟨es4, hca, HM4.out⟩, HC3.out.big⟩)
              have hb6r : Below P w6 wr := (Below.refl P w6).grown hGr.out (by omega) (fun g hg => by have := (HXL.out g hg).1; omega)
              have HBr := Lib.hid (HB6.out.trans hb6r)
              obtain ⟨u0, u1, u2, hgr2, -⟩ := HCE.out wr (HB2.out.trans (HBr.out.mono hwP))
              clear hca hb6r hXr hKr HX6
              go_wp2_with fail
              refine (id_k x.i _ HCr.out (by omega)).mono ?_
              rintro r w7 ⟨hc7, hb7, hg7⟩
              rw [HT3.out] at hg7
              obtain ⟨A7, c7, rfl, hky⟩ := hg7
              simp only at hky
              have b8 := below_new hb7 (.cells #[.string ⟨x.t.toArray⟩, .string ⟨x.i.toArray⟩, .slice A7 x.ks.length c7] 31)
              have HC8 := Lib.hid (HCr.out.below b8)
              have HB8 := Lib.hid (HBr.out.trans (b8.mono (by have := HCr.out.le; omega)))
              have HK8 := Lib.hid (hky.below (below_new (Below.refl _ _) (.cells #[.string ⟨x.t.toArray⟩, .string ⟨x.i.toArray⟩, .slice A7 x.ks.length c7] 31)))
              have HX8 := Lib.hid (Row.new w7 31 #[.string ⟨x.t.toArray⟩, .string ⟨x.i.toArray⟩, .slice A7 x.ks.length c7])
              clear hc7 hb7 hky b8 u0 u1 u2 x0 x1 x2
              go_upto_region 25 with fail
              obtain ⟨w8, hw8⟩ : ∃ w8, w7.alloc (.cells #[.string ⟨x.t.toArray⟩, .string ⟨x.i.toArray⟩, .slice A7 x.ks.length c7] 31) = w8 := ⟨_, rfl⟩
              rw [hw8] at HC8 HB8 HK8 HX8
              rw [hw8]
              clear hw8
              obtain ⟨y0, y1, y2, y3⟩ := HX8.out.three
              obtain ⟨u0, u1, u2, hgr8, hus8⟩ := HCE.out w8 (HB2.out.trans (HB8.out.mono hwP))
              have hxn : x.ks.length = x.n := HXN.out
              rw [hxn] at y2
              have HUS8 := Lib.hid hus8
              clear hus8 hxn
              go_cut [165] from 128 to 164 (fun v wx => v = .bool false ∧ Below w8.heap.size w8 wx)
              case first =>
                by_cases hk0 : x.n = 0
                · rw [hk0] at y2 u2
                  go_quiet (fail)
                  go_wp2_with fail
                  go_meet
                  exact ⟨rfl, below_drewN (Below.refl _ _) _⟩
                · have hlx : 0 < x.ks.length := by have := HXN.out; omega
                  obtain ⟨gq, oq, hAq, hgq, hcq⟩ := HUS8.out.at_ (by omega)
                  obtain ⟨g7, hA7, _, hg7l, hc7q, _⟩ := HK8.out.at_ (by simp only; exact hlx)
                  simp only at hA7 hc7q
                  subst hA7
                  have r0 := hcq 0 hlx
                  have r1 := hc7q 0 hlx
                  obtain ⟨z, hz⟩ : ∃ z, x.ks[0]'hlx = z := ⟨_, rfl⟩
                  rw [hz] at r0 r1
                  rw [Nat.add_zero] at r0
                  rw [hAq] at u2
                  have hgq8 : gq < w8.heap.size := by omega
                  have hz5 : (0 : Int) < (x.n : Int) := by omega
                  have hz6 : 0 < x.n := by omega
                  clear hcq hc7q hz
                  go_quiet (fail)
                  go_wp2_with fail
                  go_meet
                  exact ⟨rfl, below_drewN (Below.refl _ _) _⟩
              case rest =>
                obtain ⟨rfl, hb89⟩ := hcut
                have HC9 := Lib.hid (HC8.out.below hb89)
                have HB9 := Lib.hid (HB8.out.trans (hb89.mono (by have := HC8.out.le; omega)))
                clear HUS8 y0 y1 y2 u0 u1 u2 hb89 HK8 HX8 HC8
                go_wp2_with fail
                refine (all_k _ HC9.out (by omega)).mono ?_
                rintro _ w10 ⟨v10, out, rfl, hel10, _, hm10, hb10⟩
                obtain ⟨N3, hN3⟩ : ∃ N3, L3.length = N3 := ⟨_, rfl⟩
                have ho : out.length = N3 := by rw [← hN3, ← hm10, List.length_map]
                obtain ⟨A10, c10, rfl⟩ := hel10.form
                rw [ho] at hel10 ⊢
                rw [hN3] at hl3
                have HE10 := Lib.hid hel10
                have HM10 := Lib.hid hm10
                have HN3 := Lib.hid hN3
                have HC10 := Lib.hid (HC9.out.below hb10)
                have HB10 := Lib.hid (HB9.out.trans (hb10.mono (by have := HC9.out.le; omega)))
                have hy1 : ¬ ((m : Int) < (N3 : Int)) := by omega
                have hy2 : (0 : Int) ≤ (m : Int) := by omega
                have hy3 : ¬ ((m : Int) < (0 : Int)) := by omega
                clear hel10 hm10 hb10 ho hN3 HC9 HB9
                go_wp2_with fail
                go_loopw [19] (fun y wr => ∃ p3 : Nat, p3 ≤ N3 ∧ y = .int .i64 p3 ∧ Hid (Below w10.heap.size w10 wr)) (fun y _ => N3 - (intOf y).toNat)
                case atStart => exact ⟨0, Nat.zero_le _, rfl, Lib.hid (Below.refl _ _)⟩
                case round =>
                  obtain ⟨p3, hp3, rfl, hB3⟩ := hrel
                  by_cases hp3l : p3 < N3
                  · have hz5 : (p3 : Int) < (N3 : Int) := by omega
                    go_wp2_with fail
                    go_loopw [20] (fun y wr => ∃ q4 : Nat, q4 ≤ p3 ∧ y = .int .i64 q4 ∧ Hid (Below w10.heap.size w10 wr)) (fun y _ => p3 - (intOf y).toNat)
                    case atStart => exact ⟨0, Nat.zero_le _, rfl, hB3⟩
                    case round =>
                      obtain ⟨q4, hq4, rfl, hB4⟩ := hrel
                      by_cases hq4l : q4 < p3
                      · have hz6 : (q4 : Int) < (p3 : Int) := by omega
                        have hz7 : (q4 : Int) < (N3 : Int) := by omega
                        have hz8 : q4 < N3 := by omega
                        obtain ⟨hne1, hne2⟩ := (List.pairwise_iff_getElem.1 HU3.out) q4 p3 (by have := HN3.out; omega) (by have := HN3.out; omega) hq4l
                        obtain ⟨ga, rfl, hga, s0, s1⟩ := (HE10.out.below hB4.out).at_ HM10.out HN3.out p3 hp3l
                        obtain ⟨gb, hgab, hgb, r0, r1⟩ := (HE10.out.below hB4.out).at_ HM10.out HN3.out q4 hz8
                        injection hgab with hgab
                        injection hgab with hgab _ _
                        subst hgab
                        obtain ⟨xp, hxp⟩ : ∃ xp, L3[p3]'(by have := HN3.out; omega) = xp := ⟨_, rfl⟩
                        obtain ⟨xq, hxq⟩ : ∃ xq, L3[q4]'(by have := HN3.out; omega) = xq := ⟨_, rfl⟩
                        rw [hxp] at hne1 hne2 s0 s1
                        rw [hxq] at hne1 hne2 r0 r1
                        have e1 : (xp.1 == xq.1) = false := by simpa using fun e => hne1 e.symm
                        have e2 : (xp.2.1 == xq.2.1) = false := by simpa using fun e => hne2 e.symm
                        have e3 : ¬ xp.1 = xq.1 := fun e => hne1 e.symm
                        have e4 : ¬ xp.2.1 = xq.2.1 := fun e => hne2 e.symm
                        clear hxp hxq hne1 hne2
                        go_upto_region 36 with fail
                        go_quiet (fail)
                        go_wp2_with fail
                        exact ⟨⟨q4 + 1, by omega, by go_num, Lib.hid (below_drewN hB4.out _)⟩, by simp [intOf]; omega⟩
                      · have hz6 : ¬ ((q4 : Int) < (p3 : Int)) := by omega
                        go_wp2_with fail
                        exact ⟨⟨p3 + 1, by omega, by go_num, hB4⟩, by simp [intOf]; omega⟩
                  · have hz5 : ¬ ((p3 : Int) < (N3 : Int)) := by omega
                    go_wp2_with fail
                    exact ⟨⟨k + 1, _, L3, by omega, by omega, by go_num, Lib.hid (HC10.out.below hB3.out), HU3, by have := HN3.out; omega, Lib.hid (HB10.out.trans (hB3.out.mono (by have := HC10.out.le; omega)))⟩, by simp [intOf]; omega⟩
      · have hz4 : ¬ ((k : Int) < 40) := by omega
        go_wp2_with fail
        go_ret
        exact ⟨rfl, HBW.out⟩
    · have hz3 : ¬ ((k : Int) < (N : Int)) := by omega
      go_wp2_with fail
      go_ret
      exact ⟨rfl, HBW.out⟩
end Go.Proofs.Ytfcopniihcaefaa
