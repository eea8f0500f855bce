/- prepared: the switch of PreparedPlays at Put. No condition. -/
import Derived.Test.YtfcopniihcaefaaQA
namespace Go.Proofs.Ytfcopniihcaefaa
open Go.RowKit
set_option maxRecDepth 100000 in
set_option maxHeartbeats 1000000 in
theorem sw_put {W w : World} {P Q m : Nat} {n : Int} {k X : Nat} {v : Value} {L : List KE} {kd : Int} {t i : List UInt8} {Ae : Option Addr} {ne ce : Nat} {ke : List Nat} (h : RS W w P Q m n k X v L kd t i Ae ne ce ke) {g o N c : Nat} {a : Act} (ha : FrP n g o N c P Q k a) (h9 : a.tmps.getD 9 undef = .pointer (some ⟨X, 0, none⟩)) (h52 : a.tmps.getD 52 undef = .int .i64 0) :
    sw.wp Try.prog (JP n g o N c P Q k W m) a w := by
  obtain ⟨f, rfl, e9, e52⟩ := ha.form
  rw [e9] at h9
  rw [e52] at h52
  rw [h9, h52]
  have H := Lib.hid h
  obtain ⟨x0, x1, x2, x3, x4⟩ := h.row.four
  clear h ha e9 e52 h9 h52
  conv => enter [2]; whnf
  go_wp2_with fail
  have hwP := H.out.wp
  have hne := H.out.ne
  have hk6 := H.out.k60
  have hLl := H.out.len
  refine (put_k t i Ae ne ce ke _ H.out.pl.ck (H.out.us.below H.out.bel) hwP (by omega) (by omega)).mono ?_
  rintro _ w5 ⟨rfl, v5, hc5, hk5⟩
  have hb5 := H.out.bel.trans (H.out.pl.ck.kw_below hk5 hwP)
  obtain ⟨hfQ, A5, c5, es5, hrow5, hrl5, hm5⟩ := H.out.pl.rest hk5
  have hX5 := hk5.row H.out.row H.out.far
  obtain ⟨y0, y1, y2, y3, y4⟩ := hX5.four
  obtain ⟨z0, z1, z2, z3⟩ := hrow5.two
  have zf0 := hrow5.frozen 0
  have hP5 : P < w5.heap.size := hc5.le
  have hQ5 : Q < w5.heap.size := hfQ.lt
  have hv5 : ∀ g, v5.ownBlock = some g → g < w5.heap.size := fun _ hg => (hc5.row hg).2
  have HUQ := Lib.hid (H.out.pl.uq.put m (t, i, ke))
  have HLN := Lib.hid (show (putK m (t, i, ke) L).length ≤ k + 1 by
    unfold putK
    have h1 : (L.filter fun y => !(y.1 == t || y.2.1 == i)).length ≤ L.length := List.length_filter_le _ _
    rw [List.length_take, List.length_cons]
    simp only
    omega)
  have HC5 := Lib.hid hc5
  have HB5 := Lib.hid hb5
  have HFQ := Lib.hid hfQ
  have HRW5 := Lib.hid hrow5
  have HRL5 := Lib.hid hrl5
  have HM5 := Lib.hid hm5
  have HV5 := Lib.hid hv5
  have HUS := Lib.hid ((H.out.us.below hb5).more hb5.size)
  have hxq : ¬ X = Q ∨ X = Q := by omega
  clear hc5 hk5 hb5 hfQ hrow5 hrl5 hm5 hX5 x0 x1 x2 x3 x4 hv5 hxq
  go_upto_region 20 with fail
  go_region_with (first | (go_at_call 11; refine (entry_any t i _ HUS.out.drew (by omega)).mono ?_; rintro _ wE ⟨A', c', rfl, hko, hbE⟩; have HKE := Lib.hid hko; have HBE := Lib.hid hbE; obtain ⟨z0, z1, z2, z3⟩ := (HRW5.out.drew.below hbE HRW5.out.lt).two; have HRE := Lib.hid (RL.below' (w := w5.drew) (P := P) (Q := Q) (v := v5) (HRL5.out.kept (fun g hg => ⟨⟨⟨hg.1.lt, hg.1.ne, hg.1.row⟩, hg.2⟩, rfl⟩)) hbE); have HUE := Lib.hid (hko.uq (P := P) (Q := Q) (v := v5) hP5 hQ5 HV5.out); have hsE := hbE.size; have hsE2 : w5.heap.size ≤ wE.heap.size := hsE; clear hko hbE hsE) | (go_at_call 10; refine (rput_u n m H.out.hm ⟨t, i, A', ne, c', ke⟩ HRE.out HUE.out (by omega) (by omega) (fun g hg => Nat.lt_of_lt_of_le (HV5.out g hg) hsE2) (by omega)).mono ?_; rintro _ wR ⟨hbR, AR, cR, esR, rfl, hrlR, hmR⟩; have hrowR := ((HRW5.out.drew.below HBE.out HRW5.out.lt).below hbR (Nat.lt_of_lt_of_le HRW5.out.lt hsE2)); obtain ⟨r0, r1, r2, r3⟩ := hrowR.two; have rf0 := hrowR.frozen 0; have HRR := Lib.hid hrowR; have HRLR := Lib.hid hrlR; have HMR := Lib.hid hmR; have HBR := Lib.hid hbR; clear hbR hrlR hmR hrowR))
  all_goals go_wp2_with fail
  all_goals (have hbb := below_then (below_then (w := w5.drew) (Below.refl w5.heap.size w5).drew HBE.out) HBR.out)
  all_goals (have hmm : esR.map En.k = putK m (t, i, ke) L := by rw [HMR.out, HM5.out]; rfl)
  all_goals (have hll : esR.length = (putK m (t, i, ke) L).length := by rw [← hmm, List.length_map])
  all_goals (have hst := PL.store (n0 := n) (HC5.out.below hbb) HUQ.out ((Kw.of_below hbb P v5).keep Q HFQ.out).1 HRR.out (hll ▸ HRLR.out) hmm)
  all_goals rw [← hll] at hst
  all_goals exact ⟨⟨rfl, rfl, rfl, rfl, rfl, rfl, rfl, rfl, rfl, rfl, rfl, rfl, rfl, rfl, rfl, rfl, rfl⟩, v5, _, hst, HLN.out, ((HB5.out.trans (hbb.mono (HB5.out.size))).setCell (p := ⟨Q, 0, none⟩) H.out.wq _).setCell (p := ⟨Q, 1, none⟩) H.out.wq _⟩
end Go.Proofs.Ytfcopniihcaefaa
