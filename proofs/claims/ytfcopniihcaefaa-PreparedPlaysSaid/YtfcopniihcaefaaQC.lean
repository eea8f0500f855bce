/- prepared: the switch of PreparedPlays at Text. No condition. -/
import Derived.Test.YtfcopniihcaefaaQA
namespace Go.Proofs.Ytfcopniihcaefaa
open Go.RowKit
theorem UF.store {w : World} {P Q : Nat} {v : Value} {B : Option Addr} {k d : Nat} {zs : List Nat} (h : UF (fun g => Far w P v g ∧ g ≠ Q) w B k d zs) (x y : Value) : UF (fun g => Far ((w.setCell ⟨Q, 0, none⟩ x).setCell ⟨Q, 1, none⟩ y) P v g ∧ g ≠ Q) ((w.setCell ⟨Q, 0, none⟩ x).setCell ⟨Q, 1, none⟩ y) B k d zs :=
  h.kept fun g hg => ⟨⟨⟨by simpa using hg.1.lt, hg.1.ne, hg.1.row⟩, hg.2⟩, (Below.heap_setCell _ ⟨Q, 1, none⟩ _ g hg.2).trans (Below.heap_setCell _ ⟨Q, 0, none⟩ _ g hg.2)⟩
theorem KO.store {w : World} {base Q : Nat} {e : En} {a b : Value} (h : KO w base e) (hr : Row w Q 28 #[a, b]) (x y : Value) : KO ((w.setCell ⟨Q, 0, none⟩ x).setCell ⟨Q, 1, none⟩ y) base e :=
  (h.typed (set_grown _ _ 0 x) hr (by decide)).typed (set_grown _ _ 1 y) (hr.set_ 0 x) (by decide)
theorem big_find {L : List KE} (h : ∀ x ∈ L, x.2.2.length ≤ 1099511627776) (f : KE → Bool) : ((L.find? f).getD ke0).2.2.length ≤ 1099511627776 := by
  cases ho : L.find? f with
  | none => exact Nat.zero_le _
  | some y => exact h y (List.mem_of_find?_eq_some ho)
theorem text_len (t : List UInt8) (L : List KE) : (textK t L).length ≤ L.length + 1 := by
  unfold textK
  cases L.find? fun y => y.1 == t with
  | none => exact Nat.le_succ _
  | some y =>
    have := List.length_eraseIdx_le L (L.findIdx fun y => y.1 == t)
    simp
    omega
theorem UQ.text {L : List KE} (h : UQ L) (t : List UInt8) : UQ (textK t L) := by
  unfold textK
  cases ho : L.find? fun y => y.1 == t with
  | none => exact h
  | some y =>
    have hf : ∃ x ∈ L, (fun y : KE => y.1 == t) x = true := ⟨y, List.mem_of_find?_eq_some ho, by have := List.find?_some ho; exact this⟩
    have hlt : L.findIdx (fun y => y.1 == t) < L.length := List.findIdx_lt_length_of_exists hf
    have hy : L[L.findIdx (fun y => y.1 == t)]'hlt = y := by
      have h1 := List.find?_eq_some_iff_getElem.1 ho
      obtain ⟨hp, i, hi, he, hno⟩ := h1
      have : L.findIdx (fun y => y.1 == t) = i := (List.findIdx_eq hi).2 ⟨by rw [he]; exact hp, fun j hj => by have := hno j hj; simpa using this⟩
      simp only [this]
      exact he
    generalize hj : L.findIdx (fun y => y.1 == t) = j at hlt hy
    refine List.pairwise_cons.2 ⟨fun x hx => ?_, h.sublist (List.eraseIdx_sublist ..)⟩
    rw [List.eraseIdx_eq_take_drop_succ] at hx
    have hp := List.pairwise_iff_getElem.1 h
    rcases List.mem_append.1 hx with hx | hx
    · obtain ⟨q, hq, rfl⟩ := List.mem_iff_getElem.1 hx
      rw [List.length_take] at hq
      rw [List.getElem_take]
      have := hp q j (by omega) hlt (by omega)
      rw [hy] at this
      exact ⟨fun e => this.1 e.symm, fun e => this.2 e.symm⟩
    · obtain ⟨q, hq, rfl⟩ := List.mem_iff_getElem.1 hx
      rw [List.length_drop] at hq
      rw [List.getElem_drop]
      have := hp j (j + 1 + q) hlt (by omega) (by omega)
      rw [hy] at this
      exact this
set_option maxRecDepth 100000 in
set_option maxHeartbeats 1000000 in
theorem sw_text {W w : World} {P Q m : Nat} {n : Int} {k X : Nat} {v : Value} {L : List KE} {kd : Int} {t i : List UInt8} {Ae : Option Addr} {ne ce : Nat} {ke : List Nat} (h : RS W w P Q m n k X v L kd t i Ae ne ce ke) {g o N c : Nat} {a : Act} (ha : FrP n g o N c P Q k a) (h9 : a.tmps.getD 9 undef = .pointer (some ⟨X, 0, none⟩)) (h52 : a.tmps.getD 52 undef = .int .i64 1) :
    sw.wp Try.prog (JP n g o N c P Q k W m) a w := by
  obtain ⟨f, rfl, e9, e52⟩ := ha.form
  rw [e9] at h9
  rw [e52] at h52
  rw [h9, h52]
  have H := Lib.hid h
  obtain ⟨x0, x1, x2, x3, x4⟩ := h.row.four
  clear h ha e9 e52 h9 h52
  conv => enter [2]; whnf
  go_wp2_with fail
  have hwP := H.out.wp
  have hk6 := H.out.k60
  have hLl := H.out.len
  refine (text_k t _ H.out.pl.ck (by omega)).mono ?_
  rintro r w5 ⟨hc5, hk5, hg5⟩
  obtain ⟨A5, c5, rfl, hko5⟩ := hg5.full
  obtain ⟨z, hz⟩ : ∃ z, (L.find? fun y => y.1 == t).getD ke0 = z := ⟨_, rfl⟩
  have hbig := big_find H.out.pl.ck.big fun y => y.1 == t
  rw [hz] at hbig
  have hQ5 : Q < w5.heap.size := by have := H.out.pl.far.lt; have := hk5.size; omega
  obtain ⟨b, hb⟩ : ∃ b, (L.find? fun y => y.1 == t).isSome = b := ⟨_, rfl⟩
  rw [hz] at hko5
  rw [hz, hb]
  have hb5 := H.out.bel.trans (H.out.pl.ck.kw_below hk5 hwP)
  obtain ⟨hfQ, A6, c6, es6, hrow6, hrl6, hm6⟩ := H.out.pl.rest hk5
  have b6 := below_new (Below.refl w5.heap.size w5) (.cells #[.string ⟨z.1.toArray⟩, .string ⟨z.2.1.toArray⟩, .slice A5 z.2.2.length c5] 31)
  have hX6 := (hk5.row H.out.row H.out.far).below b6 ((hk5.keep X H.out.far).1).lt
  have HX6 := Lib.hid hX6
  have HZ6 := Lib.hid (Row.new w5 31 #[.string ⟨z.1.toArray⟩, .string ⟨z.2.1.toArray⟩, .slice A5 z.2.2.length c5])
  have HC6 := Lib.hid (hc5.below b6)
  have HB6 := Lib.hid (below_then hb5 b6)
  have HFQ := Lib.hid ((Kw.of_below b6 P v).keep Q hfQ).1
  have HRW6 := Lib.hid (hrow6.below b6 hrow6.lt)
  have HRL6 := Lib.hid (RL.below' hrl6 b6)
  have HM6 := Lib.hid hm6
  have HKO6 := Lib.hid (hko5.below b6)
  have HUQ := Lib.hid (H.out.pl.uq.text t)
  have HLN := Lib.hid (show (textK t L).length ≤ k + 1 by have := text_len t L; omega)
  have HZ := Lib.hid hz
  have HBS := Lib.hid hb
  clear hc5 hk5 hg5 hko5 hb5 hfQ hrow6 hrl6 hm6 b6 hX6 hz hb x0 x1 x2 x3 x4
  go_upto_region 23 with fail
  obtain ⟨w6, hw6⟩ : ∃ w6, w5.alloc (.cells #[.string ⟨z.1.toArray⟩, .string ⟨z.2.1.toArray⟩, .slice A5 z.2.2.length c5] 31) = w6 := ⟨_, rfl⟩
  rw [hw6] at HX6 HZ6 HC6 HB6 HFQ HRW6 HRL6 HKO6
  rw [hw6]
  have hs56 : w5.heap.size < w6.heap.size := by rw [← hw6]; simp
  clear hw6
  obtain ⟨x0, x1, x2, x3, x4⟩ := HX6.out.four
  obtain ⟨y0, y1, y2, y3⟩ := HRW6.out.two
  have hP6 : P < w6.heap.size := HC6.out.le
  go_wp2_with fail
  refine (rtext_u n t HRL6.out hP6 HFQ.out.lt (fun g hg => (HC6.out.row hg).2) (by omega)).mono ?_
  rintro r w7 ⟨hb7, A7, c7, e7, es7, rfl, hrl7, hm7, hu7, hk7⟩
  rw [HM6.out] at hm7 hk7 ⊢
  rw [HBS.out]
  rw [HZ.out] at hk7
  obtain rfl : z = (e7.t, e7.i, e7.ks) := hk7.symm
  have hn7 := hu7.len
  have HZ7 := HZ6.out.below hb7 HZ6.out.lt
  have HKO7 := HKO6.out.below hb7
  simp only at hbig HZ7 HKO7
  rw [hn7] at hbig HZ7 HKO7
  simp only
  rw [hn7]
  have b8 := below_new (below_new (Below.refl w7.heap.size w7) (.cells #[.int .i64 n, .slice A7 es7.length c7] 28)) (.cells #[.string ⟨e7.t.toArray⟩, .string ⟨e7.i.toArray⟩, .slice e7.A e7.n e7.c] 36)
  have hq8 := (Row.new w7 28 #[.int .i64 n, .slice A7 es7.length c7]).alloc (.cells #[.string ⟨e7.t.toArray⟩, .string ⟨e7.i.toArray⟩, .slice e7.A e7.n e7.c] 36)
  have he8 := Row.new (w7.alloc (.cells #[.int .i64 n, .slice A7 es7.length c7] 28)) 36 #[.string ⟨e7.t.toArray⟩, .string ⟨e7.i.toArray⟩, .slice e7.A e7.n e7.c]
  rw [Row.lt_new] at he8
  have hs67 : w6.heap.size ≤ w7.heap.size := hb7.size
  have HC8 := Lib.hid ((HC6.out.below hb7).below b8)
  have HB8 := Lib.hid (below_then (below_then HB6.out hb7) b8)
  have HFQ8 := Lib.hid ((Kw.of_below b8 P v).keep Q ((Kw.of_below hb7 P v).keep Q HFQ.out).1).1
  have hr8 := (HRW6.out.below hb7 HRW6.out.lt).below b8 (Nat.lt_of_lt_of_le HRW6.out.lt hs67)
  have HRW8 := Lib.hid hr8
  have HRL8 := Lib.hid (RL.below' hrl7 b8)
  have HM7 := Lib.hid hm7
  have HU8 := Lib.hid (UF.below' hu7 b8)
  have HZ8 := Lib.hid (HZ7.below b8 HZ7.lt)
  have HKO8 := Lib.hid (HKO7.below b8)
  have HQ8 := Lib.hid hq8
  have HE8 := Lib.hid he8
  obtain ⟨y0, y1, y2, y3⟩ := hr8.two
  have yf0 := hr8.frozen 0
  obtain ⟨q0, q1, q2, q3⟩ := hq8.two
  have hlz : es7.length = (textK t L).length := by rw [← hm7, List.length_map]
  have HLZ := Lib.hid hlz
  clear hb7 hrl7 hm7 hu7 hk7 x0 x1 x2 x3 x4 b8 hr8 hq8 he8 HZ7 HKO7 hn7 hlz
  go_upto_region 24 with fail
  obtain ⟨w8, hw8⟩ : ∃ w8, (w7.alloc (.cells #[.int .i64 n, .slice A7 es7.length c7] 28)).alloc (.cells #[.string ⟨e7.t.toArray⟩, .string ⟨e7.i.toArray⟩, .slice e7.A e7.n e7.c] 36) = w8 := ⟨_, rfl⟩
  have hs78 : w7.heap.size + 2 = w8.heap.size := by rw [← hw8]; simp
  rw [hw8] at HC8 HB8 HFQ8 HRW8 HRL8 HU8 HZ8 HKO8 HQ8 HE8 y0 y1 y2 y3 yf0 q0 q1 q2 q3
  rw [hw8]
  clear hw8
  have HPL9 := Lib.hid (show PL ((w8.setCell ⟨Q, 0, none⟩ (.int .i64 n)).setCell ⟨Q, 1, none⟩ (.slice A7 es7.length c7)) P Q m n v (textK t L) from by
    have := PL.store (n0 := n) HC8.out HUQ.out HFQ8.out HRW8.out (HLZ.out ▸ HRL8.out) HM7.out
    rw [← HLZ.out] at this
    exact this)
  have HB9 := Lib.hid ((HB8.out.setCell (p := ⟨Q, 0, none⟩) H.out.wq (.int .i64 n)).setCell (p := ⟨Q, 1, none⟩) H.out.wq (.slice A7 es7.length c7))
  have HU9 := Lib.hid (UF.store HU8.out (.int .i64 n) (.slice A7 es7.length c7))
  have HKO9 := Lib.hid (HKO8.out.store HRW8.out (.int .i64 n) (.slice A7 es7.length c7))
  have HZ9 := Lib.hid ((HZ8.out.far (p := ⟨Q, 0, none⟩) (by simp; omega) (.int .i64 n)).far (p := ⟨Q, 1, none⟩) (by simp; omega) (.slice A7 es7.length c7))
  have HE9 := Lib.hid ((HE8.out.far (p := ⟨Q, 0, none⟩) (by simp; omega) (.int .i64 n)).far (p := ⟨Q, 1, none⟩) (by simp; omega) (.slice A7 es7.length c7))
  go_upto_region 25 with fail
  obtain ⟨w9, hw9⟩ : ∃ w9, (w8.setCell ⟨Q, 0, none⟩ (.int .i64 n)).setCell ⟨Q, 1, none⟩ (.slice A7 es7.length c7) = w9 := ⟨_, rfl⟩
  rw [hw9] at HPL9 HB9 HU9 HKO9 HZ9 HE9
  rw [hw9]
  clear hw9 y0 y1 y2 y3 yf0 q0 q1 q2 q3
  obtain ⟨x0, x1, x2, x3⟩ := HZ9.out.three
  obtain ⟨y0, y1, y2, y3⟩ := HE9.out.three
  have HUX := Lib.hid HKO9.out.us
  have HUY := Lib.hid (HU9.out.us far_lt)
  go_region_with (first | (go_at_call 11; refine (entry_any e7.t e7.i _ HUX.out.drew hbig).mono ?_; rintro _ wE ⟨A', c', rfl, hko, hbE⟩; have hbE2 := below_then (w := w9.drew) (Below.refl w9.heap.size w9).drew hbE; have HKE := Lib.hid hko.us; have HBE := Lib.hid hbE2; have HUE := Lib.hid (HUY.out.then_ hbE2); obtain ⟨y0, y1, y2, y3⟩ := (HE9.out.below hbE2 HE9.out.lt).three; clear hko hbE hbE2) | (go_at_call 14; refine (same_yes e7.t e7.i _ HKE.out HUE.out hbig).mono ?_; rintro _ wS ⟨rfl, hbS⟩; have HBS2 := Lib.hid hbS; clear hbS))
  all_goals go_wp2_with fail
  all_goals exact ⟨⟨rfl, rfl, rfl, rfl, rfl, rfl, rfl, rfl, rfl, rfl, rfl, rfl, rfl, rfl, rfl, rfl, rfl⟩, v, _, HPL9.out.below (below_then HBE.out HBS2.out), HLN.out, below_then HB9.out (below_then HBE.out HBS2.out)⟩
end Go.Proofs.Ytfcopniihcaefaa
