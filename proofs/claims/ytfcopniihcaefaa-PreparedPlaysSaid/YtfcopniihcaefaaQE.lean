/- prepared: the switch of PreparedPlays at Drop. No condition. -/
import Derived.Test.YtfcopniihcaefaaQC
namespace Go.Proofs.Ytfcopniihcaefaa
open Go.RowKit
set_option maxRecDepth 100000 in
set_option maxHeartbeats 1000000 in
theorem sw_drop {W w : World} {P Q m : Nat} {n : Int} {k X : Nat} {v : Value} {L : List KE} {kd : Int} {t i : List UInt8} {Ae : Option Addr} {ne ce : Nat} {ke : List Nat} (h : RS W w P Q m n k X v L kd t i Ae ne ce ke) {g o N c : Nat} {a : Act} (ha : FrP n g o N c P Q k a) (h9 : a.tmps.getD 9 undef = .pointer (some ⟨X, 0, none⟩)) (h52 : a.tmps.getD 52 undef = .int .i64 3) :
    sw.wp Try.prog (JP n g o N c P Q k W m) a w := by
  obtain ⟨f, rfl, e9, e52⟩ := ha.form
  rw [e9] at h9
  rw [e52] at h52
  rw [h9, h52]
  have H := Lib.hid h
  obtain ⟨x0, x1, x2, x3, x4⟩ := h.row.four
  clear h ha e9 e52 h9 h52
  conv => enter [2]; whnf
  go_wp2_with fail
  have hwP := H.out.wp
  have hk6 := H.out.k60
  have hLl := H.out.len
  refine (drop_k i _ H.out.pl.ck (by omega)).mono ?_
  rintro _ w5 ⟨rfl, v5, hc5, hk5⟩
  obtain ⟨b, hb⟩ : ∃ b, (L.find? fun y => y.2.1 == i).isSome = b := ⟨_, rfl⟩
  rw [hb]
  have hb5 := H.out.bel.trans (H.out.pl.ck.kw_below hk5 hwP)
  obtain ⟨hfQ, A6, c6, es6, hrow6, hrl6, hm6⟩ := H.out.pl.rest hk5
  have HX5 := Lib.hid (hk5.row H.out.row H.out.far)
  have HC5 := Lib.hid hc5
  have HB5 := Lib.hid hb5
  have HFQ := Lib.hid hfQ
  have HRW5 := Lib.hid hrow6
  have HRL5 := Lib.hid hrl6
  have HM5 := Lib.hid hm6
  have HUQ := Lib.hid (H.out.pl.uq.drop i)
  have HDF := Lib.hid (drop_filter H.out.pl.uq i)
  have HLN := Lib.hid (show (dropK i L).length ≤ k + 1 by unfold dropK; have := List.length_eraseIdx_le L (L.findIdx fun y => y.2.1 == i); omega)
  have HBS := Lib.hid hb
  have hP5 : P < w5.heap.size := hc5.le
  clear hc5 hk5 hb5 hfQ hrow6 hrl6 hm6 hb x0 x1 x2 x3 x4
  go_upto_region 14 with fail
  obtain ⟨x0, x1, x2, x3, x4⟩ := HX5.out.four
  obtain ⟨y0, y1, y2, y3⟩ := HRW5.out.two
  go_wp2_with fail
  refine (rdrop_u n i HRL5.out hP5 HFQ.out.lt (fun g hg => (HC5.out.row hg).2) (by omega)).mono ?_
  rintro r w7 ⟨hb7, A7, c7, es7, rfl, hrl7, hm7⟩
  rw [HM5.out, ← HDF.out] at hm7
  rw [HM5.out, HBS.out]
  have b8 := below_new (Below.refl w7.heap.size w7) (.cells #[.int .i64 n, .slice A7 es7.length c7] 28)
  have hs57 : w5.heap.size ≤ w7.heap.size := hb7.size
  have HC8 := Lib.hid ((HC5.out.below hb7).below b8)
  have HB8 := Lib.hid (below_then (below_then HB5.out hb7) b8)
  have HFQ8 := Lib.hid ((Kw.of_below b8 P v5).keep Q ((Kw.of_below hb7 P v5).keep Q HFQ.out).1).1
  have hr8 := (HRW5.out.below hb7 HRW5.out.lt).below b8 (Nat.lt_of_lt_of_le HRW5.out.lt hs57)
  have HRW8 := Lib.hid hr8
  have HRL8 := Lib.hid (RL.below' hrl7 b8)
  have HM7 := Lib.hid hm7
  have hq8 := Row.new w7 28 #[.int .i64 n, .slice A7 es7.length c7]
  have hlz : es7.length = (dropK i L).length := by rw [← hm7, List.length_map]
  have HLZ := Lib.hid hlz
  obtain ⟨y0, y1, y2, y3⟩ := hr8.two
  have yf0 := hr8.frozen 0
  obtain ⟨q0, q1, q2, q3⟩ := hq8.two
  clear hb7 hrl7 hm7 x0 x1 x2 x3 x4 b8 hr8 hq8 hlz
  go_upto_region 15 with fail
  obtain ⟨w8, hw8⟩ : ∃ w8, w7.alloc (.cells #[.int .i64 n, .slice A7 es7.length c7] 28) = w8 := ⟨_, rfl⟩
  rw [hw8] at HC8 HB8 HFQ8 HRW8 HRL8 y0 y1 y2 y3 yf0 q0 q1 q2 q3
  rw [hw8]
  clear hw8
  have HPL9 := Lib.hid (show PL ((w8.setCell ⟨Q, 0, none⟩ (.int .i64 n)).setCell ⟨Q, 1, none⟩ (.slice A7 es7.length c7)) P Q m n v5 (dropK i L) from by
    have := PL.store (n0 := n) HC8.out HUQ.out HFQ8.out HRW8.out (HLZ.out ▸ HRL8.out) HM7.out
    rw [← HLZ.out] at this
    exact this)
  have HB9 := Lib.hid ((HB8.out.setCell (p := ⟨Q, 0, none⟩) H.out.wq (.int .i64 n)).setCell (p := ⟨Q, 1, none⟩) H.out.wq (.slice A7 es7.length c7))
  go_wp2_with fail
  exact ⟨⟨rfl, rfl, rfl, rfl, rfl, rfl, rfl, rfl, rfl, rfl, rfl, rfl, rfl, rfl, rfl, rfl, rfl⟩, v5, _, HPL9.out, HLN.out, HB9.out⟩
end Go.Proofs.Ytfcopniihcaefaa
