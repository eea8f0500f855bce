/- prepared: Text. Of at most 2^40 entries, 2^40 keys each. -/
import Derived.Test.YtfcopniihcaefaaPI
namespace Go.Proofs.Ytfcopniihcaefaa
open Go.RowKit
/-- The row once that text was asked for. -/
def mtf (t : List UInt8) (es : List En) : List En :=
  match es.find? fun e => e.t == t with
  | none => es
  | some e => e :: es.eraseIdx (es.findIdx fun e => e.t == t)
theorem down_list {es : List En} {k : Nat} (hk : k < es.length) : (es.take 1 ++ es.take k ++ es.drop (1 + k)).take 0 ++ [es[k]] ++ (es.take 1 ++ es.take k ++ es.drop (1 + k)).drop (0 + 1) = es[k] :: es.eraseIdx k := by
  cases es with
  | nil => exact absurd hk (by simp)
  | cons a r => simp [List.eraseIdx_eq_take_drop_succ, Nat.add_comm 1 k]
theorem set_grown (w : World) (b i : Nat) (u : Value) : w.grownBy (w.setCell ⟨b, i, none⟩ u) (some b) := ⟨rfl, rfl, rfl, by simp, fun k _ hne => Below.heap_setCell w ⟨b, i, none⟩ u k (fun (e : k = b) => hne (by rw [e]))⟩
theorem CA.far {w : World} {base p m b : Nat} {v : Value} {es : List En} {cs : Array Value} (h : CA w base p m v es) (hb : Row w b 31 cs) (hp : b ≠ p) (hv : some b ≠ v.ownBlock) (i : Nat) (u : Value) : CA (w.setCell ⟨b, i, none⟩ u) base p m v es :=
  ⟨h.row.far (fun e => hp e.symm) u, h.el.kept (set_grown w b i u) (.inr (fun e => hv e.symm)), fun e he => (h.ks e he).typed (set_grown w b i u) hb (by decide), h.lt, by simpa using h.le⟩
theorem CA.far3 {w : World} {base p m b : Nat} {v : Value} {es : List En} {cs : Array Value} (h : CA w base p m v es) (hb : Row w b 31 cs) (hp : b ≠ p) (hv : some b ≠ v.ownBlock) (x y z : Value) : CA (((w.setCell ⟨b, 0, none⟩ x).setCell ⟨b, 1, none⟩ y).setCell ⟨b, 2, none⟩ z) base p m v es :=
  ((h.far hb hp hv 0 x).far (hb.set_ 0 x) hp hv 1 y).far ((hb.set_ 0 x).set_ 1 y) hp hv 2 z
theorem Kp.far {a w : World} {p b i : Nat} {v : Value} (h : Kp a w p v) (hb : a.heap.size ≤ b) (u : Value) : Kp a (w.setCell ⟨b, i, none⟩ u) p v :=
  ⟨h.os, h.tape, h.output, by simpa using h.size, fun k hk hp hv => (Below.heap_setCell w ⟨b, i, none⟩ u k (fun (e : k = b) => by omega)).trans (h.block k hk hp hv)⟩
theorem Kp.far3 {a w : World} {p b : Nat} {v : Value} (h : Kp a w p v) (hb : a.heap.size ≤ b) (x y z : Value) : Kp a (((w.setCell ⟨b, 0, none⟩ x).setCell ⟨b, 1, none⟩ y).setCell ⟨b, 2, none⟩ z) p v :=
  ((h.far hb x).far hb y).far hb z
theorem KO.far3 {w : World} {base b : Nat} {e : En} {cs : Array Value} (h : KO w base e) (hb : Row w b 31 cs) (x y z : Value) : KO (((w.setCell ⟨b, 0, none⟩ x).setCell ⟨b, 1, none⟩ y).setCell ⟨b, 2, none⟩ z) base e :=
  ((h.typed (set_grown w b 0 x) hb (by decide)).typed (set_grown _ b 1 y) (hb.set_ 0 x) (by decide)).typed (set_grown _ b 2 z) ((hb.set_ 0 x).set_ 1 y) (by decide)
theorem Row.kp {w w' : World} {g p : Nat} {ty : TypeId} {cs : Array Value} {v : Value} (h : Row w g ty cs) (hk : Kp w w' p v) (hp : g ≠ p) (hv : some g ≠ v.ownBlock) : Row w' g ty cs := (hk.block g h.lt hp hv).trans h
theorem KO.kp {w w' : World} {base p : Nat} {v : Value} {es : List En} {e : En} (h : KO w base e) (hp : p < base) (hel : EL w base v es) (hk : Kp w w' p v) : KO w' base e := by
  refine ⟨⟨h.row.1, ?_⟩, h.rng⟩
  rcases h.row.2 with h1 | ⟨k, cap, cur, hv, hb, hkk, hr⟩
  · exact .inl h1
  · refine .inr ⟨k, cap, cur, hv, hb, (hk.block k (Array.getElem?_eq_some_iff.1 hkk).1 (by omega) (fun x => ?_)).trans hkk, hr⟩
    rcases hel.2 with ⟨rfl, _⟩ | ⟨g, cap, cur, rfl, _, hh, _⟩
    · simp [Value.ownBlock] at x
    · simp [Value.ownBlock] at x
      subst x
      rw [hkk] at hh
      injection hh with hh
      injection hh with _ h2 _
      exact absurd h2 (by decide)
set_option maxHeartbeats 1000000 in
theorem text_any {base p m : Nat} {v : Value} {es : List En} (t : List UInt8) (w : World) (hc : CA w base p m v es) (hlen : es.length ≤ 1099511627776) (hnk : ∀ e ∈ es, e.n ≤ 1099511627776) :
    Calls Try.prog 12 #[.pointer (some ⟨p, 0, none⟩), .string ⟨t.toArray⟩] w fun r w' => CA w' base p m v (mtf t es) ∧ Kp w w' p v ∧ Got w' w.heap.size (es.find? fun e => e.t == t) r := by
  have b1 := below_new (Below.refl w.heap.size w) (.cells #[.string ⟨t.toArray⟩] 9)
  have b2 := below_new b1 (.cells #[.string ⟨[].toArray⟩, .string ⟨[].toArray⟩, .slice none 0 0] 31)
  obtain ⟨w2, hw2⟩ : ∃ w2, w2 = (w.alloc (.cells #[.string ⟨t.toArray⟩] 9)).alloc (.cells #[.string ⟨[].toArray⟩, .string ⟨[].toArray⟩, .slice none 0 0] 31) := ⟨_, rfl⟩
  have hq := (Row.new w 9 #[.string ⟨t.toArray⟩]).alloc (.cells #[.string ⟨[].toArray⟩, .string ⟨[].toArray⟩, .slice none 0 0] 31)
  have hr := Row.new (w.alloc (.cells #[.string ⟨t.toArray⟩] 9)) 31 #[.string ⟨[].toArray⟩, .string ⟨[].toArray⟩, .slice none 0 0]
  rw [Row.lt_new] at hr
  rw [← hw2] at b2 hq hr
  have hq0 := hq.cell 0
  simp only [List.getElem?_toArray, List.getElem?_cons_zero] at hq0
  have hc2 := hc.below b2
  have HFD := Lib.hid (find_text w.heap.size t w2 hc2.row hc2.el hq0 hq.lt hlen)
  have HR := Lib.hid hr
  have HC2 := Lib.hid hc2
  have HB2 := Lib.hid b2
  have HNK := Lib.hid hnk
  have hpw := hc.row.lt
  have hpb := hc.lt
  have HGL := Lib.hid (fun g hg => (World.ownsRow.lt hc.el g hg).2)
  clear hc b1 b2 hq hr hq0 hc2 hnk
  go_enter Try.func12, Try.ntmps12
  subst hw2
  go_wp2_with fail
  refine HFD.out.mono ?_
  rintro _ w3 ⟨⟨r, rfl, hr⟩, hb3⟩
  have hr3 := HR.out.below hb3 HR.out.lt
  rcases hr.find with ⟨rfl, hn⟩ | ⟨k, hk, rfl, hn, hix, _⟩
  · obtain ⟨d0, d1, d2, d3⟩ := hr3.three
    have g0 := hr3.frozen 0
    have g1 := hr3.frozen 1
    have g2 := hr3.frozen 2
    have HN := Lib.hid hn
    obtain ⟨k0, k1, k2, _⟩ := (hr3.put3 (.string ⟨[].toArray⟩) (.string ⟨[].toArray⟩) (.slice none 0 0)).three
    have hcf := (HC2.out.below hb3).far3 hr3 (show w.heap.size + 1 ≠ p by omega) (fun e => by have := HGL.out _ e.symm; omega) (.string ⟨[].toArray⟩) (.string ⟨[].toArray⟩) (.slice none 0 0)
    have HC3 := Lib.hid hcf
    have HK := Lib.hid ((Kp.of_below (below_then HB2.out hb3) p v).far3 (show w.heap.size ≤ w.heap.size + 1 by omega) (.string ⟨[].toArray⟩) (.string ⟨[].toArray⟩) (.slice none 0 0))
    have HEM := Lib.hid (show mtf t es = es by unfold mtf; rw [hn])
    clear hr3 hr hb3 hcf hn
    go_wp2_with fail
    refine bodyPost_ret (by simp [results, Try.results12, go_sem, k0, k1, k2]; try rfl) rfl ?_
    rw [HN.out, HEM.out]
    exact ⟨HC3.out, HK.out, rfl⟩
  · have hc3 := HC2.out.below hb3
    obtain ⟨c0, c1, c2, c3⟩ := hc3.row.two
    obtain ⟨gb, cap, rfl, hEB⟩ := hc3.el.some_ es.length rfl (by omega)
    obtain ⟨e, he⟩ : ∃ e, es[k] = e := ⟨_, rfl⟩
    have hem : e ∈ es := by rw [← he]; exact List.getElem_mem _
    obtain ⟨s0, s1, s2⟩ := hEB.en k hk
    rw [he] at s0 s1 s2 hn
    have hz1 : (k : Int) < (es.length : Int) := by omega
    have hz2 : ¬ ((k : Int) < 0) := by omega
    have hgl := hEB.lt
    have hgw : gb < w.heap.size := HGL.out gb rfl
    have hw3 : w.heap.size + 1 < w3.heap.size := HR.out.below hb3 HR.out.lt |>.lt
    have HEM := Lib.hid (show mtf t es = e :: es.eraseIdx k by unfold mtf; rw [hn, hix])
    have HN := Lib.hid hn
    have HDL := Lib.hid (show _ = e :: es.eraseIdx k from he ▸ down_list hk)
    have HEMEM := Lib.hid hem
    have HC4 := Lib.hid (hc3.new_ (.cells #[.string ⟨e.t.toArray⟩, .string ⟨e.i.toArray⟩, .slice e.A e.n e.c] 31))
    have HR4 := Lib.hid (hr3.alloc (.cells #[.string ⟨e.t.toArray⟩, .string ⟨e.i.toArray⟩, .slice e.A e.n e.c] 31))
    have HQ4 := Lib.hid (Row.new w3 31 #[.string ⟨e.t.toArray⟩, .string ⟨e.i.toArray⟩, .slice e.A e.n e.c])
    have HK4 := Lib.hid (Kp.of_below (below_new (below_then HB2.out hb3) (.cells #[.string ⟨e.t.toArray⟩, .string ⟨e.i.toArray⟩, .slice e.A e.n e.c] 31)) p (.slice (some ⟨gb, 0, none⟩) es.length cap))
    obtain ⟨N, hN⟩ : ∃ N, es.length = N := ⟨_, rfl⟩
    rw [hN] at HK4 HC4 hz1 c1
    clear hr hb3 hn hix hc3 hEB he hem hr3 HR
    go_upto_region 5 with fail
    obtain ⟨w4, hw4⟩ : ∃ w4, w3.alloc (.cells #[.string ⟨e.t.toArray⟩, .string ⟨e.i.toArray⟩, .slice e.A e.n e.c] 31) = w4 := ⟨_, rfl⟩
    rw [hw4] at HC4 HR4 HQ4 HK4 ⊢
    clear hw4 c0 c1 c2 c3 s0 s1 s2
    go_cut [] from 21 to 34 (fun wx => CA wx base p m (.slice (some ⟨gb, 0, none⟩) N cap) (es.take 1 ++ es.take k ++ es.drop (1 + k)) ∧ Kp w4 wx p (.slice (some ⟨gb, 0, none⟩) N cap))
    case first =>
      obtain ⟨wd, hwd⟩ : ∃ wd, w4.drew = wd := ⟨_, rfl⟩
      have hcd := HC4.out.drew
      have HKd := Lib.hid ((Kp.of_below (Below.refl w4.heap.size w4) p (.slice (some ⟨gb, 0, none⟩) N cap)).drew)
      rw [hwd] at hcd HKd
      have hEBd := hcd.eb hN
      obtain ⟨_, _, hbg, hNc, hcm⟩ := hEBd.obj
      unfold maxLen at hcm
      obtain ⟨c0, c1, c2, c3⟩ := hcd.row.two
      have HCd := Lib.hid hcd
      clear hcd
      by_cases hc1 : cap = 1
      · subst hc1
        obtain rfl : k = 0 := by omega
        obtain rfl : N = 1 := by omega
        have hcp : ∀ ty, (Builtin.copy_ #[48, 48] ty #[.slice (some ⟨gb, 0, none⟩) 0 0, .slice (some ⟨gb, 0, none⟩) 0 1]).run Try.prog wd = .ok (goInt 0) wd := fun ty =>
          run_copy_en wd ty gb 0 0 0 gb 0 0 1 [] rfl ⟨fun k hk => absurd hk (by simp), fun k hk => absurd hk (by simp), fun k hk => absurd hk (by simp)⟩ (fun j hj => absurd hj (by simp)) (fun j hj => absurd hj (by simp))
        have HT := Lib.hid (show es.take 1 ++ es.take 0 ++ es.drop (1 + 0) = es by rw [List.take_zero, List.append_nil]; exact List.take_append_drop 1 es)
        have hwr : IntKind.i64.wrap (((0 : Nat) : Int) + 1) = 1 := by rfl
        have hwr2 : IntKind.i64.wrap 1 = 1 := by rfl
        go_still_tail 13, (by kernel_rfl)
        change wpList _ _ _ _ _ w4.drew
        rw [hwd]
        go_wp2_with fail
        go_meet
        rw [HT.out]
        exact ⟨HCd.out, HKd.out⟩
      · have hc2 : cap ≠ 1 := hc1
        have hz3 : (1 : Int) ≤ (k : Int) + 1 := by omega
        have hz4 : (k : Int) + 1 ≤ (N : Int) := by omega
        have hz5 : k + 1 ≤ cap := by omega
        have hz6 : k ≤ cap := by omega
        have hz7 : (0 : Int) ≤ (k : Int) + 1 := by omega
        have hz8 : (k : Int) + 1 ≤ (cap : Int) := by omega
        have hz9 : (k : Int) ≤ (cap : Int) := by omega
        have hz10 : ((k : Int) + 1).toNat = k + 1 := by omega
        have hz11 : 1 ≤ k + 1 := by omega
        have hwr : IntKind.i64.wrap ((k : Int) + 1) = (k : Int) + 1 := by rw [IntKind.wrap_i64]; omega
        have hEc := hEBd.cut k (by omega)
        have hcp : ∀ ty, (Builtin.copy_ #[48, 48] ty #[.slice (some ⟨gb, 3, none⟩) k (cap - 1), .slice (some ⟨gb, 0, none⟩) k cap]).run Try.prog wd = .ok (goInt (es.take k).length) (wd.setCells gb 3 ((es.take k).flatMap enCells)) := fun ty =>
          run_copy_en wd ty gb 3 _ _ gb 0 _ _ (es.take k) (by rw [List.length_take]; exact (by omega : min k es.length = k).trans (Nat.min_self k).symm) hEc.ents (fun j hj => hEBd.is _ (by rw [List.length_take] at hj; omega)) (fun j hj => hEBd.fro _)
        have htl : (es.take k).length = k := by rw [List.length_take]; omega
        obtain ⟨hl1, hl2⟩ := hEBd.lay 1 3 (es.take k) rfl (by omega)
        rw [htl] at hl1
        have HF := Lib.hid (HCd.out.lay hl1 hl2 (fun y hy => by
          rcases List.mem_append.1 hy with hy | hy
          · rcases List.mem_append.1 hy with hy | hy
            · exact HCd.out.ks y (List.mem_of_mem_take hy)
            · exact HCd.out.ks y (List.mem_of_mem_take hy)
          · exact HCd.out.ks y (List.mem_of_mem_drop hy)))
        have HKf := Lib.hid (HKd.out.then_ (Kp.of_grown (v := .slice (some ⟨gb, 0, none⟩) N cap) hl2 p) (.inl rfl))
        clear hl1 hl2 hEc hEBd htl
        go_still_tail 13, (by kernel_rfl)
        change wpList _ _ _ _ _ w4.drew
        rw [hwd]
        go_wp2_with fail
        go_meet
        exact ⟨HF.out, HKf.out⟩
    case rest =>
      obtain ⟨hc5, hk5⟩ := hcut
      have hnp3 : w3.heap.size ≠ p := by omega
      have hnp1 : w.heap.size + 1 ≠ p := by omega
      have hR5 := HR4.out.kp hk5 hnp1 (by simp [Value.ownBlock]; omega)
      have hQ5 := HQ4.out.kp hk5 hnp3 (by simp [Value.ownBlock]; omega)
      have hk5w := HK4.out.then_ hk5 (.inl rfl)
      have HKS := Lib.hid (show ∀ y ∈ es, KO wc.drew base y from fun y hy => by
        have := (HC4.out.ks y hy).kp HC4.out.lt HC4.out.el hk5
        exact ⟨this.row, this.rng⟩)
      obtain ⟨L5, hL5⟩ : ∃ L5, es.take 1 ++ es.take k ++ es.drop (1 + k) = L5 := ⟨_, rfl⟩
      rw [hL5] at hc5 HDL
      have hlL : L5.length = N := by rw [← hL5]; simp [List.length_take]; omega
      have hsL : ∀ x ∈ L5, x ∈ es := fun x hx => by
        rw [← hL5] at hx
        rcases List.mem_append.1 hx with hx | hx
        · rcases List.mem_append.1 hx with hx | hx
          · exact List.mem_of_mem_take hx
          · exact List.mem_of_mem_take hx
        · exact List.mem_of_mem_drop hx
      obtain ⟨wd, hwd⟩ : ∃ wd, wc.drew = wd := ⟨_, rfl⟩
      have hcd := hc5.drew
      have hQd := hQ5.drew
      have HRd := Lib.hid hR5.drew
      have hkd := hk5w.drew
      rw [hwd] at hcd hQd HRd hkd HKS
      obtain ⟨c0, c1, c2, c3⟩ := hcd.row.two
      obtain ⟨q0, q1, q2, q3⟩ := hQd.three
      have hEd := hcd.eb hlL
      obtain ⟨s0, s1, s2⟩ := hEd.en 0 (by omega)
      simp only [Nat.zero_mul, Nat.zero_add] at s0 s1 s2
      have f0 := hEd.fro 0
      have f1 := hEd.fro 1
      have f2 := hEd.fro 2
      have hz3 : (0 : Int) < (N : Int) := by omega
      have hz4 : 0 < N := by omega
      have hz5 : N ≠ 0 := by omega
      have HCD := Lib.hid hcd
      have HQD := Lib.hid hQd
      have HKD := Lib.hid hkd
      have HED := Lib.hid hEd
      clear hc5 hk5 hR5 hQ5 hk5w hL5 hcd hQd hkd hEd HC4 HR4 HQ4 HK4
      go_upto_region 6 with fail
      go_still_tail 6, (by kernel_rfl)
      change wpList _ _ _ _ _ wc.drew
      rw [hwd]
      go_upto_region 7 with fail
      obtain ⟨w6, hw6⟩ : ∃ w6, ((wd.setCell ⟨gb, 0, none⟩ (.string ⟨e.t.toArray⟩)).setCell ⟨gb, 1, none⟩ (.string ⟨e.i.toArray⟩)).setCell ⟨gb, 2, none⟩ (.slice e.A e.n e.c) = w6 := ⟨_, rfl⟩
      obtain ⟨hl1, hl2⟩ := HED.out.lay 0 0 [e] rfl (by simp; omega)
      have hd1 : L5.take 0 ++ [e] ++ L5.drop (0 + [e].length) = e :: es.eraseIdx k := HDL.out
      rw [hd1] at hl1
      have hw6' : wd.setCells gb 0 ([e].flatMap enCells) = w6 := hw6
      rw [hw6'] at hl1 hl2
      rw [hw6]
      have hc6 := HCD.out.lay hl1 hl2 (fun y hy => by
        rcases List.mem_cons.1 hy with rfl | hy
        · exact HKS.out y HEMEM.out
        · exact HKS.out y (List.mem_of_mem_eraseIdx hy))
      have hk6 := HKD.out.then_ (Kp.of_grown (v := .slice (some ⟨gb, 0, none⟩) N cap) hl2 p) (.inl rfl)
      have hQ6 := HQD.out.grown hl2 (by simp; omega)
      have hR6 := HRd.out.grown hl2 (by simp; omega)
      obtain ⟨q0, q1, q2, q3⟩ := hQ6.three
      have HUS := Lib.hid (hc6.ks e (List.mem_cons_self ..)).us
      have HNE := Lib.hid (HNK.out e HEMEM.out)
      have HC6 := Lib.hid hc6
      have HK6 := Lib.hid hk6
      have HR6 := Lib.hid hR6
      clear hw6 hw6' hl1 hl2 hd1 hc6 hk6 hQ6 hR6 HCD HQD HRd HKD HED HKS hsL
      go_wp2_with fail
      refine (own_is e.t e.i e.A e.n e.c e.ks _ HUS.out HNE.out).mono ?_
      rintro _ w7 ⟨A', c', rfl, hko, hb7⟩
      have hr7 := HR6.out.below hb7 HR6.out.lt
      obtain ⟨d0, d1, d2, d3⟩ := hr7.three
      have g0 := hr7.frozen 0
      have g1 := hr7.frozen 1
      have g2 := hr7.frozen 2
      obtain ⟨k0, k1, k2, _⟩ := (hr7.put3 (.string ⟨e.t.toArray⟩) (.string ⟨e.i.toArray⟩) (.slice A' e.n c')).three
      have hcf := (HC6.out.below hb7).far3 hr7 hnp1 (by simp [Value.ownBlock]; omega) (.string ⟨e.t.toArray⟩) (.string ⟨e.i.toArray⟩) (.slice A' e.n c')
      have HCF := Lib.hid hcf
      have HKF := Lib.hid ((HK6.out.then_ (Kp.of_below hb7 p (.slice (some ⟨gb, 0, none⟩) N cap)) (.inl rfl)).far3 (show w.heap.size ≤ w.heap.size + 1 by omega) (.string ⟨e.t.toArray⟩) (.string ⟨e.i.toArray⟩) (.slice A' e.n c'))
      have HKO := Lib.hid ((hko.far3 hr7 (.string ⟨e.t.toArray⟩) (.string ⟨e.i.toArray⟩) (.slice A' e.n c')).mono (show w.heap.size ≤ w6.heap.size from HK6.out.size))
      clear hr7 hb7 hko hcf
      go_wp2_with fail
      refine bodyPost_ret (by simp [results, Try.results12, go_sem, k0, k1, k2]; try rfl) rfl ?_
      rw [HN.out, HEM.out, hN]
      exact ⟨HCF.out, HKF.out, A', c', rfl, HKO.out⟩
end Go.Proofs.Ytfcopniihcaefaa
