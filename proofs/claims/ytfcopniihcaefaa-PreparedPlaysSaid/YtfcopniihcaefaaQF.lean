/- prepared: PreparedPlays. No condition. -/
import Derived.Test.YtfcopniihcaefaaQB
import Derived.Test.YtfcopniihcaefaaQD
import Derived.Test.YtfcopniihcaefaaQE
import Derived.Deep.CutBlock
namespace Go.Proofs.Ytfcopniihcaefaa
open Go.RowKit
theorem sw_all {W w : World} {P Q m : Nat} {n : Int} {k X : Nat} {v : Value} {L : List KE} {kd : Int} {t i : List UInt8} {Ae : Option Addr} {ne ce : Nat} {ke : List Nat} (h : RS W w P Q m n k X v L kd t i Ae ne ce ke) {g o N c : Nat} {a : Act} (ha : FrP n g o N c P Q k a) (h9 : a.tmps.getD 9 undef = .pointer (some ⟨X, 0, none⟩)) (h52 : a.tmps.getD 52 undef = .int .i64 (kd % 4)) :
    sw.wp Try.prog (JP n g o N c P Q k W m) a w := by
  have hk : kd % 4 = 0 ∨ kd % 4 = 1 ∨ kd % 4 = 2 ∨ kd % 4 = 3 := by omega
  rcases hk with hk | hk | hk | hk <;> rw [hk] at h52
  · exact sw_put h ha h9 h52
  · exact sw_text h ha h9 h52
  · exact sw_id h ha h9 h52
  · exact sw_drop h ha h9 h52
set_option maxRecDepth 100000 in
set_option maxHeartbeats 1000000 in
theorem plays_any {A : Option Addr} {N c : Nat} {xs : List AC} (n : Int) (hn1 : -9223372036854775808 ≤ n) (hn2 : n ≤ 9223372036854775807) (w : World) (hl : AS w w.heap.size A N c xs) : Calls Try.prog 3 #[.int .i64 n, .slice A N c] w fun r w' => r = .returned (.bool true) ∧ Below w.heap.size w w' := by
  have HL := Lib.hid hl
  have hnm := hl.max
  have hnc := hl.cap
  have hnl := hl.len
  unfold maxLen at hnm
  obtain ⟨m, hm⟩ : ∃ m : Nat, max n 0 = (m : Int) := ⟨(max n 0).toNat, by omega⟩
  have HM := Lib.hid hm
  clear hl hm
  go_enter Try.func3, Try.ntmps3
  go_wp2_with fail
  refine (awake20 _).mono ?_
  rintro _ w1 ⟨rfl, hb1⟩
  go_wp2_with fail
  refine (new_k n m _ HM.out).mono ?_
  rintro _ w2 ⟨rfl, hc2, hb2⟩
  obtain ⟨P, hP⟩ : ∃ P, w1.heap.size = P := ⟨_, rfl⟩
  have hwP : w.heap.size ≤ P := by rw [← hP]; exact hb1.size
  rw [hP] at hc2 hb2 ⊢
  have b3 := below_new (Below.refl w2.heap.size w2) (.cells #[.int .i64 n, .slice none 0 0] 28)
  have HP3 := Lib.hid (show PL (w2.alloc (.cells #[.int .i64 n, .slice none 0 0] 28)) P w2.heap.size m n (.slice none 0 0) [] from
    ⟨hc2.below b3, List.Pairwise.nil, ⟨none, 0, [], Row.new w2 _ _, ⟨rfl, Nat.le_refl _, Nat.zero_le _, fun h => absurd h (Nat.lt_irrefl _), fun e he => absurd he (by simp)⟩, rfl⟩, hc2.far_new _⟩)
  have HB3 := Lib.hid ((hb1.trans (hb2.mono hwP)).trans (b3.mono (by have := hc2.le; omega)))
  have hP2 : P < w2.heap.size := hc2.le
  clear hb1 hb2 hc2 b3 hP
  obtain ⟨Q, hQ⟩ : ∃ Q, w2.heap.size = Q := ⟨_, rfl⟩
  rw [hQ] at HP3 hP2
  go_upto_region 6 with fail
  obtain ⟨w3, hw3⟩ : ∃ w3, w2.alloc (.cells #[.int .i64 n, .slice none 0 0] 28) = w3 := ⟨_, rfl⟩
  rw [hw3] at HP3 HB3
  rw [hw3]
  clear hw3 hQ
  go_wp2_with fail
  go_loopw [8] (fun x wr => ∃ (k : Nat) (v : Value) (L : List KE), k ≤ N ∧ k ≤ 60 ∧ x = .int .i64 k ∧ Hid (PL wr P Q m n v L) ∧ L.length ≤ k ∧ Hid (Below w.heap.size w wr)) (fun x _ => N - (intOf x).toNat)
  case atStart => exact ⟨0, _, [], Nat.zero_le _, by omega, rfl, HP3, Nat.le_refl _, HB3⟩
  case round =>
    obtain ⟨k, v, L, hk, hk60, rfl, hPL, hLk, hB⟩ := hrel
    by_cases hlt : k < N
    · have hz3 : (k : Int) < (N : Int) := by omega
      by_cases hlt6 : k < 60
      · have hz4 : (k : Int) < 60 := by omega
        obtain ⟨g, o, rfl, hg, hes⟩ := HL.out.at_ (by omega)
        obtain ⟨s0, s1, s2, s3⟩ := hes k (by omega)
        have hus := HL.out.us xs[k] (List.getElem_mem _)
        obtain ⟨x, hx⟩ : ∃ x, xs[k]'(by omega) = x := ⟨_, rfl⟩
        rw [hx] at s0 s1 s2 s3 hus
        obtain ⟨kd, e⟩ := x
        obtain ⟨t, i, Ae, ne, ce, ke⟩ := e
        simp only at s0 s1 s2 s3 hus
        have s0 := (hB.out.cell (p := ⟨g, o + k * 4, none⟩) hg).trans s0
        have s1 := (hB.out.cell (p := ⟨g, o + k * 4 + 1, none⟩) hg).trans s1
        have s2 := (hB.out.cell (p := ⟨g, o + k * 4 + 2, none⟩) hg).trans s2
        have s3 := (hB.out.cell (p := ⟨g, o + k * 4 + 3, none⟩) hg).trans s3
        have hgr : g < wr.heap.size := Nat.lt_of_lt_of_le hg hB.out.size
        have HUS := Lib.hid hus
        have b4 := below_new (Below.refl wr.heap.size wr) (.cells #[.int .i64 kd, .string ⟨t.toArray⟩, .string ⟨i.toArray⟩, .slice Ae ne ce] 33)
        have HX4 := Lib.hid (Row.new wr 33 #[.int .i64 kd, .string ⟨t.toArray⟩, .string ⟨i.toArray⟩, .slice Ae ne ce])
        have HPL4 := Lib.hid (hPL.out.below b4)
        have HB4 := Lib.hid (below_then hB.out b4)
        have HF4 := Lib.hid (hPL.out.ck.far_new (.cells #[.int .i64 kd, .string ⟨t.toArray⟩, .string ⟨i.toArray⟩, .slice Ae ne ce] 33))
        clear hes hus hx b4
        by_cases h5 : 50 < ne
        · have hz5 : (50 : Int) < (ne : Int) := by omega
          go_wp2_with fail
          go_ret
          exact ⟨rfl, HB4.out⟩
        · have hz5 : ¬ ((50 : Int) < (ne : Int)) := by omega
          have ha3 := and3 kd
          have HRS := Lib.hid (show RS w _ P Q m n k wr.heap.size v L kd t i Ae ne ce ke from ⟨HPL4.out, hLk, hlt6, HM.out, HB4.out, hwP, by omega, HX4.out, HF4.out, HUS.out, by omega⟩)
          obtain ⟨x0, x1, x2, x3, x4⟩ := HX4.out.four
          go_upto_block 2 with fail
          refine wp_mono (sw_all HRS.out (g := g) (o := o) (N := N) (c := c) (a := _) ?_ ?_ ?_) ?_
          · exact ⟨rfl, rfl, rfl, rfl, rfl, rfl, rfl, rfl, rfl, rfl, rfl, rfl, rfl, rfl, rfl, rfl, rfl⟩
          · rfl
          · rfl
          · rintro ex a' w' hJ
            cases ex with
            | normal =>
              obtain ⟨hF, v', L', hPL', hLk', hB'⟩ := hJ
              obtain ⟨f, rfl, _, _⟩ := hF.form
              have HPL' := Lib.hid hPL'
              have HB' := Lib.hid hB'
              clear hF hPL' hB' HRS x0 x1 x2 x3 x4 s0 s1 s2 s3
              go_wp2_with fail
              refine (all_k _ HPL'.out.ck (by omega)).mono ?_
              rintro _ w10 ⟨v10, out, rfl, hel10, hko10, hm10, hb10⟩
              obtain ⟨N3, hN3⟩ : ∃ N3, L'.length = N3 := ⟨_, rfl⟩
              have ho : out.length = N3 := by rw [← hN3, ← hm10, List.length_map]
              obtain ⟨A10, c10, rfl⟩ := hel10.form
              rw [ho] at hel10 ⊢
              have hbb := HPL'.out.below hb10
              obtain ⟨A6, c6, es6, hrow6, hrl6, hm6⟩ := hbb.ex
              rw [hN3] at hrow6 hrl6
              obtain ⟨y0, y1, y2, y3⟩ := hrow6.two
              have HE10 := Lib.hid hel10
              have HKO10 := Lib.hid hko10
              have HMM := Lib.hid (hm10.trans hm6.symm)
              have HO := Lib.hid ho
              have HRW10 := Lib.hid hrow6
              have HRL10 := Lib.hid hrl6
              have HBIG := Lib.hid (show ∀ e ∈ out, e.n ≤ 1099511627776 from fun e he => by
                rw [(hko10 e he).n]
                have := hbb.ck.big e.k (by rw [← hm10]; exact List.mem_map_of_mem he)
                exact this)
              have HPL10 := Lib.hid hbb
              have HB10 := Lib.hid (below_then HB'.out hb10)
              have HLK := Lib.hid hLk'
              have hN60 : N3 ≤ 61 := by omega
              clear hel10 hko10 hm10 hb10 ho hbb hrow6 hrl6 hm6 hN3 hLk'
              go_wp2_with fail
              go_loopw [23] (fun y wr2 => ∃ j : Nat, j ≤ N3 ∧ y = .int .i64 j ∧ Hid (Below w10.heap.size w10 wr2)) (fun y _ => N3 - (intOf y).toNat)
              case atStart => exact ⟨0, Nat.zero_le _, rfl, Lib.hid (Below.refl _ _)⟩
              case round =>
                obtain ⟨j, hj, rfl, hBj⟩ := hrel
                by_cases hjl : j < N3
                · have hz8 : (j : Int) < (N3 : Int) := by omega
                  obtain ⟨g3, cap3, hv3, hEB3⟩ := (HE10.out.below hBj.out).some_ N3 HO.out (by omega)
                  injection hv3 with hv31 _ hv33
                  subst hv31
                  subst hv33
                  have hjo : j < out.length := by rw [HO.out]; exact hjl
                  have hje : j < es6.length := by rw [HRL10.out.len]; exact hjl
                  obtain ⟨s0, s1, s2⟩ := hEB3.en j hjo
                  have hg3 := hEB3.lt
                  have hrl := RL.below' HRL10.out hBj.out
                  obtain ⟨g6, o6, rfl, hg6, hes6⟩ := hrl.at_ (by omega)
                  obtain ⟨r0, r1, r2⟩ := hes6.en j hje
                  have hg6l := hg6.1.lt
                  have hu1 := ((HKO10.out _ (List.getElem_mem hjo)).below hBj.out)
                  have hu2 := hrl.us _ (List.getElem_mem hje)
                  have hbg := HBIG.out _ (List.getElem_mem hjo)
                  have hkk : (out[j]'hjo).k = (es6[j]'hje).k := by
                    have h1 : (out.map En.k)[j]? = (es6.map En.k)[j]? := by rw [HMM.out]
                    rw [List.getElem?_map, List.getElem?_map, List.getElem?_eq_getElem hjo, List.getElem?_eq_getElem hje] at h1
                    simpa using h1
                  obtain ⟨eo, heo⟩ : ∃ eo, out[j]'hjo = eo := ⟨_, rfl⟩
                  obtain ⟨er, her⟩ : ∃ er, es6[j]'hje = er := ⟨_, rfl⟩
                  rw [heo] at s0 s1 s2 hu1 hbg hkk
                  rw [her] at r0 r1 r2 hu2 hkk
                  obtain ⟨t1, i1, A1, n1, c1, k1⟩ := eo
                  obtain ⟨t2, i2, A2, n2, c2, k2⟩ := er
                  simp only [En.k, Prod.mk.injEq] at hkk
                  obtain ⟨rfl, rfl, rfl⟩ := hkk
                  simp only at s0 s1 s2 r0 r1 r2 hu2 hbg
                  obtain rfl : n1 = n2 := by rw [← hu2.len]; exact hu1.n
                  have HU1 := Lib.hid hu1.us
                  have HU2 := Lib.hid (hu2.us far_lt)
                  have HES := Lib.hid hes6
                  have HRWj := Lib.hid (HRW10.out.below hBj.out HRW10.out.lt)
                  obtain ⟨y0, y1, y2, y3⟩ := HRWj.out.two
                  clear hu1 hu2 hes6 hrl heo hEB3 hjo
                  have HER := Lib.hid her
                  clear her
                  go_upto_region 38 with fail
                  go_region_with (first | (go_at_call 11; refine (entry_any t1 i1 _ HU1.out.drew hbg).mono ?_; rintro _ wE ⟨A', c', rfl, hko, hbE⟩; have hbE2 := below_then (w := wr.drew) (Below.refl wr.heap.size wr).drew hbE; have HKE := Lib.hid hko.us; have HBE := Lib.hid hbE2; have HUE := Lib.hid (HU2.out.then_ hbE2); obtain ⟨y0, y1, y2, y3⟩ := (HRWj.out.below hbE2 HRWj.out.lt).two; have r0 := (hbE2.cell (p := ⟨g6, o6 + j * 3, none⟩) hg6l).trans r0; have r1 := (hbE2.cell (p := ⟨g6, o6 + j * 3 + 1, none⟩) hg6l).trans r1; have r2 := (hbE2.cell (p := ⟨g6, o6 + j * 3 + 2, none⟩) hg6l).trans r2; have hg6e : g6 < wE.heap.size := Nat.lt_of_lt_of_le hg6l hbE2.size; clear hko hbE hbE2) | (go_at_call 14; refine (same_yes t1 i1 _ HKE.out HUE.out hbg).mono ?_; rintro _ wS ⟨rfl, hbS⟩; have HBS2 := Lib.hid hbS; clear hbS))
                  all_goals go_wp2_with fail
                  all_goals exact ⟨⟨j + 1, by omega, by go_num, Lib.hid (below_then hBj.out (below_then HBE.out HBS2.out))⟩, by simp [intOf]; omega⟩
                · have hz8 : ¬ ((j : Int) < (N3 : Int)) := by omega
                  go_wp2_with fail
                  exact ⟨⟨k + 1, v', L', by omega, by omega, by go_num, Lib.hid (HPL10.out.below hBj.out), HLK.out, Lib.hid (below_then HB10.out hBj.out)⟩, by simp [intOf]; omega⟩
            | _ => exact hJ.elim
      · have hz4 : ¬ ((k : Int) < 60) := by omega
        go_wp2_with fail
        go_ret
        exact ⟨rfl, hB.out⟩
    · have hz3 : ¬ ((k : Int) < (N : Int)) := by omega
      go_wp2_with fail
      go_ret
      exact ⟨rfl, hB.out⟩
end Go.Proofs.Ytfcopniihcaefaa
