/- prepared: the switch of PreparedPlays at Id. No condition. -/
import Derived.Test.YtfcopniihcaefaaQC
namespace Go.Proofs.Ytfcopniihcaefaa
open Go.RowKit
set_option maxRecDepth 100000 in
set_option maxHeartbeats 1000000 in
theorem sw_id {W w : World} {P Q m : Nat} {n : Int} {k X : Nat} {v : Value} {L : List KE} {kd : Int} {t i : List UInt8} {Ae : Option Addr} {ne ce : Nat} {ke : List Nat} (h : RS W w P Q m n k X v L kd t i Ae ne ce ke) {g o N c : Nat} {a : Act} (ha : FrP n g o N c P Q k a) (h9 : a.tmps.getD 9 undef = .pointer (some ⟨X, 0, none⟩)) (h52 : a.tmps.getD 52 undef = .int .i64 2) :
    sw.wp Try.prog (JP n g o N c P Q k W m) a w := by
  obtain ⟨f, rfl, e9, e52⟩ := ha.form
  rw [e9] at h9
  rw [e52] at h52
  rw [h9, h52]
  have H := Lib.hid h
  obtain ⟨x0, x1, x2, x3, x4⟩ := h.row.four
  clear h ha e9 e52 h9 h52
  conv => enter [2]; whnf
  go_wp2_with fail
  have hwP := H.out.wp
  have hk6 := H.out.k60
  have hLl := H.out.len
  refine (id_k i _ H.out.pl.ck (by omega)).mono ?_
  rintro r w5 ⟨hc5, hb5, hg5⟩
  obtain ⟨A5, c5, rfl, hko5⟩ := hg5.full
  obtain ⟨z, hz⟩ : ∃ z, (L.find? fun y => y.2.1 == i).getD ke0 = z := ⟨_, rfl⟩
  have hbig := big_find H.out.pl.ck.big fun y => y.2.1 == i
  rw [hz] at hbig
  obtain ⟨b, hb⟩ : ∃ b, (L.find? fun y => y.2.1 == i).isSome = b := ⟨_, rfl⟩
  rw [hz] at hko5
  rw [hz, hb]
  have b6 := below_new hb5 (.cells #[.string ⟨z.1.toArray⟩, .string ⟨z.2.1.toArray⟩, .slice A5 z.2.2.length c5] 31)
  have HPL6 := Lib.hid (H.out.pl.below b6)
  have HX6 := Lib.hid (H.out.row.below b6 H.out.row.lt)
  have HZ6 := Lib.hid (Row.new w5 31 #[.string ⟨z.1.toArray⟩, .string ⟨z.2.1.toArray⟩, .slice A5 z.2.2.length c5])
  have HB6 := Lib.hid (below_then H.out.bel b6)
  have HKO6 := Lib.hid (hko5.below (below_new (Below.refl _ _) (.cells #[.string ⟨z.1.toArray⟩, .string ⟨z.2.1.toArray⟩, .slice A5 z.2.2.length c5] 31)))
  have HZ := Lib.hid hz
  have HBS := Lib.hid hb
  clear hc5 hb5 hg5 hko5 b6 hz hb x0 x1 x2 x3 x4
  go_upto_region 29 with fail
  obtain ⟨w6, hw6⟩ : ∃ w6, w5.alloc (.cells #[.string ⟨z.1.toArray⟩, .string ⟨z.2.1.toArray⟩, .slice A5 z.2.2.length c5] 31) = w6 := ⟨_, rfl⟩
  rw [hw6] at HPL6 HX6 HZ6 HB6 HKO6
  rw [hw6]
  clear hw6
  obtain ⟨A6, c6, es6, hrow6, hrl6, hm6⟩ := HPL6.out.ex
  obtain ⟨x0, x1, x2, x3, x4⟩ := HX6.out.four
  obtain ⟨y0, y1, y2, y3⟩ := hrow6.two
  have HRL6 := Lib.hid hrl6
  have HM6 := Lib.hid hm6
  clear hrow6 hrl6 hm6
  go_wp2_with fail
  refine (rid_u n i HRL6.out (by omega)).mono ?_
  rintro r w7 ⟨hb7, e7, rfl, hu7, hk7⟩
  rw [HM6.out] at hk7 ⊢
  rw [HBS.out]
  rw [HZ.out] at hk7
  obtain rfl : z = (e7.t, e7.i, e7.ks) := hk7.symm
  have hn7 := hu7.len
  have HZ7 := HZ6.out.below hb7 HZ6.out.lt
  have HKO7 := HKO6.out.below hb7
  simp only at hbig HZ7 HKO7
  rw [hn7] at hbig HZ7 HKO7
  simp only
  rw [hn7]
  have b8 := below_new (Below.refl w7.heap.size w7) (.cells #[.string ⟨e7.t.toArray⟩, .string ⟨e7.i.toArray⟩, .slice e7.A e7.n e7.c] 36)
  have HPL9 := Lib.hid ((HPL6.out.below hb7).below b8)
  have HB9 := Lib.hid (below_then (below_then HB6.out hb7) b8)
  have HUY := Lib.hid ((UF.below' hu7 b8).us far_lt)
  have HZ9 := Lib.hid (HZ7.below b8 HZ7.lt)
  have HUX := Lib.hid (HKO7.below b8).us
  have HE9 := Lib.hid (Row.new w7 36 #[.string ⟨e7.t.toArray⟩, .string ⟨e7.i.toArray⟩, .slice e7.A e7.n e7.c])
  clear hb7 hu7 hk7 x0 x1 x2 x3 x4 y0 y1 y2 y3 b8 HZ7 HKO7 hn7
  go_upto_region 30 with fail
  obtain ⟨w9, hw9⟩ : ∃ w9, w7.alloc (.cells #[.string ⟨e7.t.toArray⟩, .string ⟨e7.i.toArray⟩, .slice e7.A e7.n e7.c] 36) = w9 := ⟨_, rfl⟩
  rw [hw9] at HPL9 HB9 HUY HUX HZ9 HE9
  rw [hw9]
  clear hw9
  obtain ⟨x0, x1, x2, x3⟩ := HZ9.out.three
  obtain ⟨y0, y1, y2, y3⟩ := HE9.out.three
  go_region_with (first | (go_at_call 11; refine (entry_any e7.t e7.i _ HUX.out.drew hbig).mono ?_; rintro _ wE ⟨A', c', rfl, hko, hbE⟩; have hbE2 := below_then (w := w9.drew) (Below.refl w9.heap.size w9).drew hbE; have HKE := Lib.hid hko.us; have HBE := Lib.hid hbE2; have HUE := Lib.hid (HUY.out.then_ hbE2); obtain ⟨y0, y1, y2, y3⟩ := (HE9.out.below hbE2 HE9.out.lt).three; clear hko hbE hbE2) | (go_at_call 14; refine (same_yes e7.t e7.i _ HKE.out HUE.out hbig).mono ?_; rintro _ wS ⟨rfl, hbS⟩; have HBS2 := Lib.hid hbS; clear hbS))
  all_goals go_wp2_with fail
  all_goals exact ⟨⟨rfl, rfl, rfl, rfl, rfl, rfl, rfl, rfl, rfl, rfl, rfl, rfl, rfl, rfl, rfl, rfl, rfl⟩, v, _, HPL9.out.below (below_then HBE.out HBS2.out), by omega, below_then HB9.out (below_then HBE.out HBS2.out)⟩
end Go.Proofs.Ytfcopniihcaefaa
