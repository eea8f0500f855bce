/- prepared: PreparedDrops. No condition. -/
import Derived.Test.YtfcopniihcaefaaPP
import Derived.BigQuiet
import Derived.Deep.QuietTactic
namespace Go.Proofs.Ytfcopniihcaefaa
open Go.RowKit
theorem key_at' {es : List En} {L : List KE} (h : es.map En.k = L) (i : Nat) (hi : i < es.length) (hi2 : i < L.length) : es[i].t = L[i].1 ∧ es[i].i = L[i].2.1 ∧ es[i].ks = L[i].2.2 := by
  subst h
  rw [List.getElem_map]
  exact ⟨rfl, rfl, rfl⟩
theorem EL.at_ {w : World} {base N cap : Nat} {A : Option Addr} {es : List En} {L : List KE} (h : EL w base (.slice A N cap) es) (hm : es.map En.k = L) (hN : L.length = N) (i : Nat) (hi : i < N) : ∃ g, A = some ⟨g, 0, none⟩ ∧ g < w.heap.size ∧ w.cell? ⟨g, i * 3, none⟩ = some (.string ⟨(L[i]'(by omega)).1.toArray⟩) ∧ w.cell? ⟨g, i * 3 + 1, none⟩ = some (.string ⟨(L[i]'(by omega)).2.1.toArray⟩) := by
  have hl : es.length = N := by rw [← hN, ← hm, List.length_map]
  obtain ⟨g, cap', hv, hb⟩ := h.some_ N hl (by omega)
  injection hv with h1 _ h3
  subst h1
  subst h3
  obtain ⟨s0, s1, s2⟩ := hb.en i (by omega)
  obtain ⟨e0, e1, _⟩ := key_at' hm i (by omega) (by omega)
  rw [e0] at s0
  rw [e1] at s1
  exact ⟨g, rfl, hb.lt, s0, s1⟩
theorem EL.below {w w' : World} {base : Nat} {v : Value} {es : List En} (h : EL w base v es) (hb : Below w.heap.size w w') : EL w' base v es := own_below h hb
set_option maxRecDepth 100000 in
set_option maxHeartbeats 1000000 in
theorem drops_any {A : Option Addr} {n c : Nat} {es : List En} (e : En) (w : World) (hl : LS w w.heap.size A n c es) (he : US w w.heap.size e.A e.n e.c e.ks) : Calls Try.prog 6 #[.slice A n c, e.v] w fun r w' => r = .returned (.bool true) ∧ Below w.heap.size w w' := by
  obtain ⟨t, i, Ae, ne, ce, ke⟩ := e
  unfold En.v
  simp only at he ⊢
  have b0 := below_new (Below.refl w.heap.size w) (.cells #[.string ⟨t.toArray⟩, .string ⟨i.toArray⟩, .slice Ae ne ce] 31)
  have HB0 := Lib.hid b0
  have HQ0 := Lib.hid (Row.new w 31 #[.string ⟨t.toArray⟩, .string ⟨i.toArray⟩, .slice Ae ne ce])
  have HL := Lib.hid hl
  have HE := Lib.hid he
  have hnm := hl.max
  have hnc := hl.cap
  have hem := he.max
  have hec := he.cap
  have hnl := hl.len
  unfold maxLen at hnm hem
  clear hl he b0
  go_enter Try.func6, Try.ntmps6
  go_wp2_with fail
  refine (awake20 _).mono ?_
  rintro _ w1 ⟨rfl, hb1⟩
  have HB1 := Lib.hid (below_then HB0.out hb1)
  have HQ1 := Lib.hid (HQ0.out.below hb1 HQ0.out.lt)
  have hqs : w.heap.size < w1.heap.size := HQ1.out.lt
  obtain ⟨q0, q1, q2, q3⟩ := HQ1.out.three
  clear hb1
  by_cases h1 : 20 < n
  · have hz : (20 : Int) < (n : Int) := by omega
    go_wp2_with fail
    go_ret
    exact ⟨rfl, HB1.out⟩
  · have hz : ¬ ((20 : Int) < (n : Int)) := by omega
    by_cases h2 : 20 < ne
    · have hz2 : (20 : Int) < (ne : Int) := by omega
      go_wp2_with fail
      go_ret
      exact ⟨rfl, HB1.out⟩
    · have hz2 : ¬ ((20 : Int) < (ne : Int)) := by omega
      go_wp2_with fail
      refine (new_k 30 30 _ rfl).mono ?_
      rintro _ w2 ⟨rfl, hc2, hb2⟩
      obtain ⟨P, hP⟩ : ∃ P, w1.heap.size = P := ⟨_, rfl⟩
      rw [hP] at hc2 hb2 hqs ⊢
      have HQ2 := Lib.hid (HQ1.out.below hb2 hqs)
      have HB2 := Lib.hid (HB1.out.trans (hb2.mono (by omega)))
      have HC2 := Lib.hid hc2
      have hP2 : P < w2.heap.size := hc2.le
      clear hc2 hb2 hP q0 q1 q2 q3
      go_wp2_with fail
      go_loopw [7] (fun x wr => ∃ (k : Nat) (v : Value), k ≤ n ∧ x = .int .i64 k ∧ Hid (CK wr (P + 1) P 30 v (rowP 30 es k)) ∧ Hid (Below P w2 wr)) (fun x _ => n - (intOf x).toNat)
      case atStart => exact ⟨0, _, Nat.zero_le _, rfl, HC2, Lib.hid (Below.refl _ _)⟩
      case round =>
        obtain ⟨k, v, hk, rfl, hC, hB⟩ := hrel
        have HLP := Lib.hid (show (rowP 30 es k).length ≤ 549755813888 by have := rowP_len 30 es k (by omega); omega)
        have HBW := Lib.hid (HB2.out.trans (hB.out.mono (by omega)))
        by_cases hlt : k < n
        · have hlk := HL.out.below HBW.out
          obtain ⟨g, o, rfl, hg, hes⟩ := hlk.at_ (by omega)
          obtain ⟨s0, s1, s2⟩ := hes.en k (by omega)
          have hus := hlk.us es[k] (List.getElem_mem _)
          have hsu := rowP_succ 30 es k (by omega)
          obtain ⟨x, hx⟩ : ∃ x, es[k]'(by omega) = x := ⟨_, rfl⟩
          rw [hx] at s0 s1 s2 hus hsu
          have hgr : g < wr.heap.size := by have := HBW.out.size; omega
          have hz3 : (k : Int) < (n : Int) := by omega
          have HUS := Lib.hid hus
          have HSU := Lib.hid hsu
          clear hlk hes hus hsu hx
          by_cases h3 : 20 < x.n
          · have hz4 : (20 : Int) < (x.n : Int) := by omega
            go_wp2_with fail
            go_ret
            exact ⟨rfl, HBW.out⟩
          · have hz4 : ¬ ((20 : Int) < (x.n : Int)) := by omega
            go_wp2_with fail
            refine (put_k x.t x.i x.A x.n x.c x.ks _ hC.out HUS.out (by omega) (by omega) HLP.out).mono ?_
            rintro _ w3 ⟨rfl, v3, hc3, hk3⟩
            rw [← HSU.out] at hc3
            have HC3 := Lib.hid hc3
            have HB3 := Lib.hid (hB.out.trans (hC.out.kw_below hk3 (Nat.le_refl _)))
            clear hc3 hk3
            go_wp2_with fail
            exact ⟨⟨k + 1, _, by omega, by go_num, HC3, HB3⟩, by simp [intOf]; omega⟩
        · obtain rfl : k = n := by omega
          obtain ⟨L, hL⟩ : ∃ L, rowP 30 es k = L := ⟨_, rfl⟩
          have HUQ := Lib.hid (show UQ L by rw [← hL]; exact rowP_uq 30 es k (by omega))
          rw [hL] at hC HLP
          clear hL
          go_wp2_with fail
          refine (all_k _ hC.out HLP.out).mono ?_
          rintro _ w4 ⟨v4, out1, rfl, hel4, _, hm4, hb4⟩
          obtain ⟨N, hN⟩ : ∃ N, L.length = N := ⟨_, rfl⟩
          have ho : out1.length = N := by rw [← hN, ← hm4, List.length_map]
          obtain ⟨A4, c4, rfl⟩ := hel4.form
          rw [ho] at hel4 ⊢
          have hNb : N ≤ 549755813888 := by rw [← hN]; exact HLP.out
          have HEL4 := Lib.hid hel4
          have HM4 := Lib.hid hm4
          have HN := Lib.hid hN
          have HC4 := Lib.hid (hC.out.below hb4)
          have HB4 := Lib.hid (hB.out.trans (hb4.mono (by have := hC.out.le; omega)))
          have HQ4 := Lib.hid (HQ2.out.below HB4.out hqs)
          have HF4 := Lib.hid (show ∀ g, (Value.slice A4 N c4).ownBlock = some g → Far w4 P v g from fun g hg => by
            have h1 := World.ownsRow.lt hel4 g hg
            have h2 := hC.out.le
            exact ⟨h1.2, by omega, fun e => by have := (hC.out.row e.symm).2; omega⟩)
          obtain ⟨q0, q1, q2, q3⟩ := HQ4.out.three
          clear hel4 hm4 hb4 hN
          go_wp2_with fail
          refine (id_k i _ HC4.out HLP.out).mono ?_
          rintro r5 w5 ⟨hc5, hb5, hg5⟩
          obtain ⟨z0, z1, A5, n5, c5, rfl⟩ := hg5.form
          obtain ⟨b, hb⟩ : ∃ b, (L.find? fun y => y.2.1 == i).isSome = b := ⟨_, rfl⟩
          have HBS := Lib.hid hb
          rw [hb]
          have b6 := below_new hb5 (.cells #[.string z0, .string z1, .slice A5 n5 c5] 31)
          have HC6 := Lib.hid (HC4.out.below b6)
          have HB6 := Lib.hid (HB4.out.trans (b6.mono (by have := HC4.out.le; omega)))
          have HEL6 := Lib.hid (HEL4.out.below' b6 (Nat.le_refl _))
          have HF6 := Lib.hid (show ∀ g, (Value.slice A4 N c4).ownBlock = some g → Far _ P v g from fun g hg => ((Kw.of_below b6 P v).keep g (HF4.out g hg)).1)
          have HQ6 := Lib.hid (HQ2.out.below HB6.out hqs)
          clear hc5 hb5 b6 hb HC4 HEL4 HF4 HQ4 hg5 q0 q1 q2 q3
          go_upto_region 15 with fail
          obtain ⟨w6, hw6⟩ : ∃ w6, w5.alloc (.cells #[.string z0, .string z1, .slice A5 n5 c5] 31) = w6 := ⟨_, rfl⟩
          rw [hw6] at HC6 HB6 HEL6 HF6 HQ6
          rw [hw6]
          clear hw6
          obtain ⟨q0, q1, q2, q3⟩ := HQ6.out.three
          go_wp2_with fail
          refine (drop_k i _ HC6.out HLP.out).mono ?_
          rintro _ w7 ⟨rfl, v7, hc7, hk7⟩
          rw [HBS.out]
          have HUQ2 := Lib.hid (HUQ.out.drop i)
          have HDF := Lib.hid (drop_filter HUQ.out i)
          obtain ⟨L2, hL2⟩ : ∃ L2, dropK i L = L2 := ⟨_, rfl⟩
          rw [hL2] at hc7 HUQ2 HDF
          have HLP2 := Lib.hid (show L2.length ≤ 549755813888 by rw [← hL2]; unfold dropK; exact Nat.le_trans (List.length_eraseIdx_le ..) HLP.out)
          have HC7 := Lib.hid hc7
          have HEL7 := Lib.hid (HEL6.out.kw hk7 HF6.out)
          have HB7 := Lib.hid (HB6.out.trans (HC6.out.kw_below hk7 (Nat.le_refl _)))
          clear hc7 hk7 hL2 HC6 HEL6 HF6 HQ6 q0 q1 q2 q3 HB4
          go_wp2_with fail
          refine (all_k _ HC7.out HLP2.out).mono ?_
          rintro _ w8 ⟨v8, out2, rfl, hel8, _, hm8, hb8⟩
          obtain ⟨N2, hN2⟩ : ∃ N2, L2.length = N2 := ⟨_, rfl⟩
          have ho : out2.length = N2 := by rw [← hN2, ← hm8, List.length_map]
          obtain ⟨A8, c8, rfl⟩ := hel8.form
          rw [ho] at hel8 ⊢
          have hNb2 : N2 ≤ 549755813888 := by rw [← hN2]; exact HLP2.out
          have HE8 := Lib.hid hel8
          have HM8 := Lib.hid hm8
          have HN2 := Lib.hid hN2
          have HC8 := Lib.hid (HC7.out.below hb8)
          have HB8 := Lib.hid (HB7.out.trans (hb8.mono (by have := HC7.out.le; omega)))
          have HW8 := Lib.hid (HEL7.out.below' hb8 (Nat.le_refl _))
          clear hel8 hm8 hb8 hN2 ho
          go_wp2_with fail
          go_loopw [12, 13] (fun x y wr => ∃ d : Nat, d ≤ N ∧ y = .int .i64 d ∧ x = .int .i64 (((L.take d).filter fun y => !(y.2.1 == i)).length : Nat) ∧ Hid (Below w8.heap.size w8 wr)) (fun _ y _ => N - (intOf y).toNat)
          case atStart => exact ⟨0, Nat.zero_le _, rfl, rfl, Lib.hid (Below.refl _ _)⟩
          case round =>
            obtain ⟨d, hd, rfl, rfl, hBd⟩ := hrel
            have hqr : w.heap.size < w8.heap.size := by have := HC8.out.le; omega
            have hQr := (HQ2.out.below HB8.out hqs).below hBd.out hqr
            obtain ⟨q0, q1, q2, q3⟩ := hQr.three
            obtain ⟨a, ha⟩ : ∃ a, ((L.take d).filter fun y => !(y.2.1 == i)).length = a := ⟨_, rfl⟩
            rw [ha]
            by_cases hlt : d < N
            · obtain ⟨g4, rfl, hg4, s0, s1⟩ := (HW8.out.below' hBd.out (Nat.le_refl _)).at_ HM4.out HN.out d hlt
              have hz3 : (d : Int) < (N : Int) := by omega
              have hdl : d < L.length := by rw [HN.out]; exact hlt
              have HST := Lib.hid (filt_step (fun y : KE => !(y.2.1 == i)) d hdl)
              have HAT := Lib.hid (filt_at (L := L) (fun y : KE => !(y.2.1 == i)) d hdl)
              obtain ⟨x, hx⟩ : ∃ x, L[d]'hdl = x := ⟨_, rfl⟩
              rw [hx] at s0 s1 HST HAT
              rw [ha] at HST HAT
              clear ha hx hQr
              cases hxi : (x.2.1 == i) with
              | true =>
                have hxe : x.2.1 = i := by simpa using hxi
                rw [hxe] at s1
                have HS2 := Lib.hid (show ((L.take (d + 1)).filter fun y => !(y.2.1 == i)).length = a by have := HST.out; rw [hxi] at this; exact this)
                clear hxi HST HAT
                go_upto_region 22 with fail
                go_quiet (fail)
                go_wp2_with fail
                exact ⟨⟨d + 1, by omega, by go_num, by rw [HS2.out], Lib.hid (below_drewN hBd.out _)⟩, by simp [intOf]; omega⟩
              | false =>
                have hxe : ¬ x.2.1 = i := by simpa using hxi
                have HS2 := Lib.hid (show ((L.take (d + 1)).filter fun y => !(y.2.1 == i)).length = a + 1 by have := HST.out; rw [hxi] at this; exact this)
                have hat := HAT.out (by simp only [hxi, Bool.not_false])
                rw [← HDF.out] at hat
                have hal : a < N2 := by
                  have := (List.getElem?_eq_some_iff.1 hat).1
                  rw [HN2.out] at this
                  exact this
                have hae : L2[a]'(by rw [HN2.out]; exact hal) = x := (List.getElem?_eq_some_iff.1 hat).2
                obtain ⟨g8, rfl, hg8, t0, t1⟩ := (HE8.out.below hBd.out).at_ HM8.out HN2.out a hal
                rw [hae] at t0 t1
                have hz4 : (a : Int) < (N2 : Int) := by omega
                have hz5 : ¬ ((N2 : Int) ≤ (a : Int)) := by omega
                have hz6 : a < N2 := hal
                clear HST HAT hat hae
                go_upto_region 22 with fail
                go_quiet (fail)
                go_upto_region 23 with fail
                go_quiet (fail)
                go_wp2_with fail
                exact ⟨⟨d + 1, by omega, by go_num, by rw [HS2.out]; go_num, Lib.hid (below_drewN hBd.out _)⟩, by simp [intOf]; omega⟩
            · obtain rfl : d = N := by omega
              have haN : a = N2 := by
                rw [← ha, List.take_of_length_le (by rw [HN.out]; exact Nat.le_refl _), ← HDF.out]
                exact HN2.out
              subst haN
              have HC9 := Lib.hid (HC8.out.below hBd.out)
              have HB9 := Lib.hid (HB8.out.trans (hBd.out.mono (by have := HC8.out.le; omega)))
              have HW9 := Lib.hid (HB2.out.trans (HB9.out.mono (by omega)))
              have HEW := Lib.hid (HE.out.below HW9.out)
              clear hQr ha HW8 HE8 HM8
              go_wp2_with fail
              refine (put_k t i Ae ne ce ke _ HC9.out HEW.out (by omega) (by omega) HLP2.out).mono ?_
              rintro _ w10 ⟨rfl, v10, hc10, hk10⟩
              obtain ⟨R, hR, hRn⟩ := putK_cons (m := 30) (by omega) (t, i, ke) L2
              have hl3 := putK_len 30 (t, i, ke) L2
              rw [hR] at hc10 hl3
              obtain ⟨L3, hL3⟩ : ∃ L3, ((t, i, ke) : KE) :: R = L3 := ⟨_, rfl⟩
              rw [hL3] at hc10 hl3
              have HL30 := Lib.hid (show L3[0]? = some (t, i, ke) by rw [← hL3]; rfl)
              have HL3n := Lib.hid (show ∀ k (hk : k < L3.length), 0 < k → ¬ L3[k].1 = t ∧ ¬ L3[k].2.1 = i by
                subst hL3
                intro k hk h0
                obtain ⟨j, rfl⟩ : ∃ j, k = j + 1 := ⟨k - 1, by omega⟩
                exact hRn _ (List.getElem_mem (by simpa using hk)))
              have hN3 : 0 < L3.length := by rw [← hL3]; simp
              have HC10 := Lib.hid hc10
              have HB10 := Lib.hid (HB9.out.trans (HC9.out.kw_below hk10 (Nat.le_refl _)))
              clear hc10 hk10 hR hRn hL3 q0 q1 q2 q3
              go_wp2_with fail
              refine (all_k _ HC10.out (by omega)).mono ?_
              rintro _ w11 ⟨v11, out3, rfl, hel11, _, hm11, hb11⟩
              obtain ⟨N3, hN3e⟩ : ∃ N3, L3.length = N3 := ⟨_, rfl⟩
              have ho : out3.length = N3 := by rw [← hN3e, ← hm11, List.length_map]
              obtain ⟨A11, c11, rfl⟩ := hel11.form
              rw [ho] at hel11 ⊢
              rw [hN3e] at hN3 hl3
              have HE11 := Lib.hid hel11
              have HM11 := Lib.hid hm11
              have HN3 := Lib.hid hN3e
              have HB11 := Lib.hid (HB10.out.trans (hb11.mono (by have := HC10.out.le; omega)))
              have hws : w.heap.size < w11.heap.size := by
                have h1 := HB11.out.size
                omega
              clear hel11 hm11 hb11 hN3e ho
              go_wp2_with fail
              go_loopw [15, 16] (fun x y wr => ∃ d : Nat, d ≤ N3 ∧ y = .int .i64 d ∧ x = .int .i64 (min d 1 : Nat) ∧ Hid (Below w11.heap.size w11 wr)) (fun _ y _ => N3 - (intOf y).toNat)
              case atStart => exact ⟨0, Nat.zero_le _, rfl, rfl, Lib.hid (Below.refl _ _)⟩
              case round =>
                obtain ⟨d3, hd3, rfl, rfl, hB3⟩ := hrel
                have hQ3 := (HQ2.out.below HB11.out hqs).below hB3.out hws
                obtain ⟨q0, q1, q2, q3⟩ := hQ3.three
                by_cases hlt3 : d3 < N3
                · obtain ⟨g3, rfl, hg3, s0, s1⟩ := (HE11.out.below hB3.out).at_ HM11.out HN3.out d3 hlt3
                  have hz3 : (d3 : Int) < (N3 : Int) := by omega
                  by_cases h0 : d3 = 0
                  · subst h0
                    have hx : L3[0]'(by rw [HN3.out]; exact hN3) = (t, i, ke) := (List.getElem?_eq_some_iff.1 HL30.out).2
                    rw [hx] at s0 s1
                    simp only at s0 s1
                    clear hQ3 hx
                    go_upto_region 34 with fail
                    go_quiet (fail)
                    go_wp2_with fail
                    exact ⟨⟨1, by omega, rfl, rfl, Lib.hid (below_drewN hB3.out _)⟩, by simp [intOf]; omega⟩
                  · obtain ⟨h5, h6⟩ := HL3n.out d3 (by rw [HN3.out]; exact hlt3) (by omega)
                    obtain ⟨x, hx⟩ : ∃ x, L3[d3]'(by rw [HN3.out]; exact hlt3) = x := ⟨_, rfl⟩
                    rw [hx] at s0 s1 h5 h6
                    have hm1 : min d3 1 = 1 := by omega
                    have h5b : (x.1 == t) = false := by simpa using h5
                    have h6b : (x.2.1 == i) = false := by simpa using h6
                    rw [hm1]
                    clear hQ3 hx hm1
                    go_upto_region 34 with fail
                    go_quiet (fail)
                    go_wp2_with fail
                    exact ⟨⟨d3 + 1, by omega, by go_num, by rw [show min (d3 + 1) 1 = 1 by omega], Lib.hid (below_drewN hB3.out _)⟩, by simp [intOf]; omega⟩
                · obtain rfl : d3 = N3 := by omega
                  have hm1 : min d3 1 = 1 := by omega
                  rw [hm1]
                  obtain ⟨g3, rfl, hg3, s0, s1⟩ := (HE11.out.below hB3.out).at_ HM11.out HN3.out 0 hN3
                  have hx : L3[0]'(by rw [HN3.out]; exact hN3) = (t, i, ke) := (List.getElem?_eq_some_iff.1 HL30.out).2
                  rw [hx] at s0 s1
                  simp only [Nat.zero_mul, Nat.zero_add] at s0 s1
                  have hz3 : (0 : Int) < (d3 : Int) := by omega
                  have HBF := Lib.hid ((HB2.out.trans (HB11.out.mono (by omega))).trans (hB3.out.mono (by omega)))
                  clear hQ3 hx hm1
                  go_upto_region 36 with fail
                  go_quiet (fail)
                  go_wp2_with fail
                  go_ret
                  exact ⟨rfl, below_drewN HBF.out _⟩
end Go.Proofs.Ytfcopniihcaefaa
