/- prepared: Drop and All; all of them on nil. Of at most 2^39 entries, 2^40 keys each. -/
import Derived.Test.YtfcopniihcaefaaPH
namespace Go.Proofs.Ytfcopniihcaefaa
open Go.RowKit
def En.k (e : En) : List UInt8 × List UInt8 × List Nat := (e.t, e.i, e.ks)
set_option maxHeartbeats 1000000 in
theorem drop_any {base p m : Nat} {v : Value} {es : List En} (t : List UInt8) (w : World) (hc : CA w base p m v es) (hlen : es.length ≤ 1099511627776) :
    Calls Try.prog 17 #[.pointer (some ⟨p, 0, none⟩), .string ⟨t.toArray⟩] w fun r w' => r = .returned (.bool (es.find? fun e => e.i == t).isSome) ∧ ∃ v', CA w' base p m v' (es.eraseIdx (es.findIdx fun e => e.i == t)) ∧ Kp w w' p v ∧ v'.ownBlock = v.ownBlock := by
  have b1 := below_new (Below.refl w.heap.size w) (.cells #[.string ⟨t.toArray⟩] 9)
  obtain ⟨w2, hw2⟩ : ∃ w2, w2 = w.alloc (.cells #[.string ⟨t.toArray⟩] 9) := ⟨_, rfl⟩
  have hq := Row.new w 9 #[.string ⟨t.toArray⟩]
  rw [← hw2] at b1 hq
  have hq0 := hq.cell 0
  simp only [List.getElem?_toArray, List.getElem?_cons_zero] at hq0
  have hc2 := hc.below b1
  have HFD := Lib.hid (find_drop w.heap.size t w2 hc2.row hc2.el hq0 hq.lt hlen)
  have HC2 := Lib.hid hc2
  have HB2 := Lib.hid b1
  clear hc b1 hq hq0 hc2
  go_enter Try.func17, Try.ntmps17
  subst hw2
  go_wp2_with fail
  refine HFD.out.mono ?_
  rintro _ w3 ⟨⟨r, rfl, hr⟩, hb3⟩
  have HC3 := Lib.hid (HC2.out.below hb3)
  have HB3 := Lib.hid (below_then HB2.out hb3)
  rcases hr.find with ⟨rfl, hn⟩ | ⟨k, hk, rfl, hn, hix, _⟩
  · have HN := Lib.hid hn
    have HIX := Lib.hid (show es.findIdx (fun e => e.i == t) = es.length from List.findIdx_eq_length.2 (fun x hx => by simpa using (List.find?_eq_none.1 hn) x hx))
    clear hr hb3 hn
    go_wp2_with fail
    go_ret
    rw [HN.out, HIX.out, List.eraseIdx_of_length_le (Nat.le_refl _)]
    exact ⟨rfl, _, HC3.out, Kp.of_below HB3.out p v, rfl⟩
  · have HN := Lib.hid hn
    have HIX := Lib.hid hix
    obtain ⟨c0, c1, c2, c3⟩ := HC3.out.row.two
    obtain ⟨gb, cap, rfl, hEB⟩ := HC3.out.el.some_ es.length rfl (by omega)
    have hz2 : ¬ ((k : Int) < 0) := by omega
    have HD := Lib.hid (del_one k w3 hEB hk (by omega))
    have hel := HC3.out.el
    clear hr hb3 hn hix
    go_wp2_with fail
    refine HD.out.mono ?_
    rintro _ w4 ⟨rfl, hE4, hg4⟩
    have hr4 := HC3.out.row.own HC3.out.el HC3.out.lt hg4
    obtain ⟨c0, c1, c2, c3⟩ := hr4.two
    have hl4 : base ≤ w4.heap.size := Nat.le_trans HC3.out.le hg4.size
    have HF := Lib.hid (CA.store hr4 hE4.el (fun x hx => (HC3.out.ks x (List.mem_of_mem_eraseIdx hx)).el HC3.out.el hg4) HC3.out.lt hl4)
    have HK := Lib.hid (((Kp.of_below HB3.out p (.slice (some ⟨gb, 0, none⟩) es.length cap)).then_ (Kp.of_grown (v := .slice (some ⟨gb, 0, none⟩) es.length cap) hg4 p) (.inl rfl)).then_ (Kp.set (w := w4) p 1 (.slice (some ⟨gb, 0, none⟩) (es.length - 1) cap) (.slice (some ⟨gb, 0, none⟩) es.length cap)) (.inl rfl))
    clear hr4 hE4 hg4 hEB hel
    go_wp2_with fail
    go_ret
    rw [HN.out, HIX.out]
    exact ⟨rfl, _, HF.out, HK.out, rfl⟩
set_option maxHeartbeats 1000000 in
theorem all_any {base p m : Nat} {v : Value} {es : List En} (w : World) (hc : CA w base p m v es) (hlen : es.length ≤ 549755813888) (hnk : ∀ e ∈ es, e.n ≤ 1099511627776) :
    Calls Try.prog 19 #[.pointer (some ⟨p, 0, none⟩)] w fun r w' => ∃ v' out, r = .returned v' ∧ EL w' w.heap.size v' out ∧ (∀ e ∈ out, KO w' w.heap.size e) ∧ out.map En.k = es.map En.k ∧ Below w.heap.size w w' := by
  have HC := Lib.hid hc
  have HNK := Lib.hid hnk
  obtain ⟨c0, c1, c2, c3⟩ := hc.row.two
  obtain ⟨A0, cap0, rfl⟩ := hc.el.form
  clear hc hnk
  go_enter Try.func19, Try.ntmps19
  go_wp2_with fail
  go_loopw [3, 13] (fun o x wr => ∃ (k : Nat) (out : List En), k ≤ es.length ∧ x = .int .i64 k ∧ Hid (EL wr w.heap.size o out) ∧ Hid (∀ e ∈ out, KO wr w.heap.size e) ∧ Hid (out.map En.k = (es.take k).map En.k) ∧ Below w.heap.size w wr) (fun _ x _ => es.length - (intOf x).toNat)
  case atStart => exact ⟨0, [], Nat.zero_le _, rfl, Lib.hid (World.ownsRow_nil _ _ _ _), Lib.hid (fun e he => absurd he (by simp)), Lib.hid rfl, Below.refl _ _⟩
  case round =>
    obtain ⟨k, out, hk, rfl, hO, hKs, hM, hb⟩ := hrel
    have hol : out.length = k := by
      have := congrArg List.length hM.out
      simp at this
      omega
    by_cases hlt : k < es.length
    · have hcr := HC.out.below hb
      obtain ⟨g, cap, hv, hEB⟩ := hcr.el.some_ es.length rfl (by omega)
      injection hv with hv1 _ hv2
      subst hv1
      subst hv2
      obtain ⟨e, he⟩ : ∃ e, es[k] = e := ⟨_, rfl⟩
      have hem : e ∈ es := by rw [← he]; exact List.getElem_mem _
      obtain ⟨s0, s1, s2⟩ := hEB.en k hlt
      rw [he] at s0 s1 s2
      have hgl := hEB.lt
      have hus := (((hcr.ks e hem).us).then_ (below_new (Below.refl wr.heap.size wr) (.cells #[.string ⟨e.t.toArray⟩, .string ⟨e.i.toArray⟩, .slice e.A e.n e.c] 31)))
      have HUS := Lib.hid hus
      have HNE := Lib.hid (HNK.out e hem)
      have HE := Lib.hid he
      clear hcr hEB hus hem he
      go_wp2_with fail
      refine (own_is e.t e.i e.A e.n e.c e.ks _ HUS.out HNE.out).mono ?_
      rintro _ w4 ⟨A', c', rfl, hko, hb4⟩
      have hbr4 := below_then (below_new (Below.refl wr.heap.size wr) (.cells #[.string ⟨e.t.toArray⟩, .string ⟨e.i.toArray⟩, .slice e.A e.n e.c] 31)) hb4
      have hbr5 := below_new hbr4 (.cells #[.string ⟨e.t.toArray⟩, .string ⟨e.i.toArray⟩, .slice A' e.n c'] 31)
      have hws : w.heap.size ≤ wr.heap.size := hb.size
      have hko4 : KO w4 w.heap.size ⟨e.t, e.i, A', e.n, c', e.ks⟩ := hko.mono (by rw [Row.lt_new]; omega)
      have hO5 := own_below hO.out hbr5
      obtain ⟨v6, w6, hrun, hel6, hg6, _⟩ := EL.run_snoc hO5 ⟨e.t, e.i, A', e.n, c', e.ks⟩ (Row.new w4 31 #[.string ⟨e.t.toArray⟩, .string ⟨e.i.toArray⟩, .slice A' e.n c']) (Nat.le_trans hws hbr5.size) (by omega) 48
      have HK6 := Lib.hid (show ∀ x ∈ out ++ [(⟨e.t, e.i, A', e.n, c', e.ks⟩ : En)], KO w6 w.heap.size x from fun x hx => by
        rcases List.mem_append.1 hx with hx | hx
        · exact ((hKs.out x hx).below hbr5).el hO5 hg6
        · rw [List.mem_singleton.1 hx]
          exact (hko4.below (below_new (Below.refl _ _) _)).el hO5 hg6)
      have HM6 := Lib.hid (show (out ++ [(⟨e.t, e.i, A', e.n, c', e.ks⟩ : En)]).map En.k = (es.take (k + 1)).map En.k by
        rw [List.take_succ_eq_append_getElem hlt, List.map_append, List.map_append, hM.out, HE.out]
        rfl)
      have HE6 := Lib.hid hel6
      have HB6 := Lib.hid ((below_then hb hbr5).grown hg6 (Nat.le_trans hws hbr5.size) (fun q hq => (World.ownsRow.lt hO5 q hq).1))
      have HR := Lib.hid hrun
      clear hko hko4 hbr4 hbr5 hO5 hrun hel6 hg6 hb4 hws
      go_wp2_with (at_builtin; refine Lib.wpList_append_run _ rfl _ _ _ _ rfl _ _ rfl rfl _ _ HR.out ?_)
      exact ⟨⟨k + 1, _, by omega, by go_num, HE6, HK6, HM6, HB6.out⟩, by simp [intOf]; omega⟩
    · obtain rfl : k = es.length := by omega
      go_wp2_with fail
      go_ret
      refine ⟨_, out, rfl, hO.out, hKs.out, ?_, hb⟩
      rw [hM.out, List.take_of_length_le (Nat.le_refl _)]
end Go.Proofs.Ytfcopniihcaefaa
