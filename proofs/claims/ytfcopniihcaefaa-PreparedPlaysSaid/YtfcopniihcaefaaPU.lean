/- prepared: the document's Same, Id and Drop. Of at most 2^38 entries, 2^40 keys. -/
import Derived.Test.YtfcopniihcaefaaPT
namespace Go.Proofs.Ytfcopniihcaefaa
open Go.RowKit
theorem RL.below {F : Nat → Prop} {w w' : World} {A : Option Addr} {n c : Nat} {es : List En} (h : RL F w A n c es) (hF : ∀ g, F g → g < w.heap.size) (hb : Below w.heap.size w w') : RL F w' A n c es := h.kept fun g hg => ⟨hg, hb.block g (hF g hg)⟩
set_option maxHeartbeats 1000000 in
theorem same_yes (t i : List UInt8) {A1 A2 : Option Addr} {n c1 c2 : Nat} {ks : List Nat} (w : World) (h1 : US w w.heap.size A1 n c1 ks) (h2 : US w w.heap.size A2 n c2 ks) (hn : n ≤ 1099511627776) :
    Calls Try.prog 14 #[.agg #[.string ⟨t.toArray⟩, .string ⟨i.toArray⟩, .slice A1 n c1], .agg #[.string ⟨t.toArray⟩, .string ⟨i.toArray⟩, .slice A2 n c2]] w fun r w' => r = .returned (.bool true) ∧ Below w.heap.size w w' := by
  have b1 := below_new (Below.refl w.heap.size w) (.cells #[.string ⟨t.toArray⟩, .string ⟨i.toArray⟩, .slice A1 n c1] 36)
  have b2 := below_new b1 (.cells #[.string ⟨t.toArray⟩, .string ⟨i.toArray⟩, .slice A2 n c2] 36)
  obtain ⟨w2, hw2⟩ : ∃ w2, w2 = (w.alloc (.cells #[.string ⟨t.toArray⟩, .string ⟨i.toArray⟩, .slice A1 n c1] 36)).alloc (.cells #[.string ⟨t.toArray⟩, .string ⟨i.toArray⟩, .slice A2 n c2] 36) := ⟨_, rfl⟩
  have hr0 := (Row.new w 36 #[.string ⟨t.toArray⟩, .string ⟨i.toArray⟩, .slice A1 n c1]).alloc (.cells #[.string ⟨t.toArray⟩, .string ⟨i.toArray⟩, .slice A2 n c2] 36)
  have hr1 := Row.new (w.alloc (.cells #[.string ⟨t.toArray⟩, .string ⟨i.toArray⟩, .slice A1 n c1] 36)) 36 #[.string ⟨t.toArray⟩, .string ⟨i.toArray⟩, .slice A2 n c2]
  rw [Row.lt_new] at hr1
  rw [← hw2] at b2 hr0 hr1
  have H1 := Lib.hid (h1.then_ b2)
  have H2 := Lib.hid (h2.then_ b2)
  have HR0 := Lib.hid hr0
  have HR1 := Lib.hid hr1
  have HB2 := Lib.hid b2
  have hkl := h1.len
  have hc1 := h1.cap
  have hc2 := h2.cap
  obtain ⟨x0, x1, x2, x3⟩ := hr0.three
  obtain ⟨y0, y1, y2, y3⟩ := hr1.three
  have HKL := Lib.hid hkl
  clear h1 h2 b1 b2 hr0 hr1 hkl
  go_enter Try.func14, Try.ntmps14
  subst hw2
  go_wp2_with fail
  obtain ⟨w2, hw2⟩ : ∃ w2, (w.alloc (.cells #[.string ⟨t.toArray⟩, .string ⟨i.toArray⟩, .slice A1 n c1] 36)).alloc (.cells #[.string ⟨t.toArray⟩, .string ⟨i.toArray⟩, .slice A2 n c2] 36) = w2 := ⟨_, rfl⟩
  rw [hw2] at H1 H2 HR0 HR1 HB2
  rw [hw2]
  clear hw2 x0 x1 x2 x3 y0 y1 y2 y3
  go_loopw [5] (fun y wr => ∃ j : Nat, j ≤ n ∧ y = .int .i64 j ∧ Hid (Below w2.heap.size w2 wr)) (fun y _ => n - (intOf y).toNat)
  case atStart => exact ⟨0, Nat.zero_le _, rfl, Lib.hid (Below.refl _ _)⟩
  case round =>
    obtain ⟨j, hj, rfl, hB⟩ := hrel
    obtain ⟨x0, x1, x2, x3⟩ := (HR0.out.below hB.out HR0.out.lt).three
    obtain ⟨y0, y1, y2, y3⟩ := (HR1.out.below hB.out HR1.out.lt).three
    by_cases hlt : j < n
    · have hz : (j : Int) < (n : Int) := by omega
      obtain ⟨ga, oa, rfl, hga, ha⟩ := H1.out.at_ (by omega)
      obtain ⟨gb, ob, rfl, hgb, hb⟩ := H2.out.at_ (by omega)
      have hjk : j < ks.length := by rw [HKL.out]; exact hlt
      have r0 := (hB.out.cell (p := ⟨ga, oa + j, none⟩) hga).trans (ha j hjk)
      have r1 := (hB.out.cell (p := ⟨gb, ob + j, none⟩) hgb).trans (hb j hjk)
      have hs := hB.out.size
      have hga' : ga < wr.heap.size := by omega
      have hgb' : gb < wr.heap.size := by omega
      obtain ⟨z, hz2⟩ : ∃ z, ks[j]'hjk = z := ⟨_, rfl⟩
      rw [hz2] at r0 r1
      clear ha hb hz2 hjk
      go_wp2_with fail
      go_upto_region 6 with fail
      go_quiet (fail)
      go_wp2_with fail
      exact ⟨⟨j + 1, by omega, by go_num, Lib.hid (below_drewN hB.out _)⟩, by simp [intOf]; omega⟩
    · obtain rfl : j = n := by omega
      go_wp2_with fail
      go_ret
      exact ⟨rfl, below_then HB2.out hB.out⟩
set_option maxHeartbeats 1000000 in
theorem rid_any {F : Nat → Prop} {A : Option Addr} {n c : Nat} {es : List En} (N0 : Int) (t : List UInt8) (w : World) (hl : RL F w A n c es) (hF : ∀ g, F g → g < w.heap.size) (hn : n ≤ 1099511627776) :
    Calls Try.prog 16 #[.agg #[.int .i64 N0, .slice A n c], .string ⟨t.toArray⟩] w fun r w' => Below w.heap.size w w' ∧ ∃ e, r = .returned (.tuple #[.agg #[.string ⟨e.t.toArray⟩, .string ⟨e.i.toArray⟩, .slice e.A e.n e.c], .bool (es.find? fun e => e.i == t).isSome]) ∧ (es.find? (fun e => e.i == t) = some e ∨ (es.find? (fun e => e.i == t) = none ∧ e = en0)) := by
  have b1 := below_new (Below.refl w.heap.size w) (.cells #[.int .i64 N0, .slice A n c] 28)
  have b2 := below_new b1 (.cells #[.string ⟨[].toArray⟩, .string ⟨[].toArray⟩, .slice none 0 0] 36)
  obtain ⟨w2, hw2⟩ : ∃ w2, w2 = (w.alloc (.cells #[.int .i64 N0, .slice A n c] 28)).alloc (.cells #[.string ⟨[].toArray⟩, .string ⟨[].toArray⟩, .slice none 0 0] 36) := ⟨_, rfl⟩
  have hr0 := (Row.new w 28 #[.int .i64 N0, .slice A n c]).alloc (.cells #[.string ⟨[].toArray⟩, .string ⟨[].toArray⟩, .slice none 0 0] 36)
  have hr1 := Row.new (w.alloc (.cells #[.int .i64 N0, .slice A n c] 28)) 36 #[.string ⟨[].toArray⟩, .string ⟨[].toArray⟩, .slice none 0 0]
  rw [Row.lt_new] at hr1
  rw [← hw2] at b2 hr0 hr1
  have HL := Lib.hid (hl.below hF b2)
  have HR0 := Lib.hid hr0
  have HR1 := Lib.hid hr1
  have HB2 := Lib.hid b2
  have HF := Lib.hid hF
  have HLN := Lib.hid hl.len
  have hc1 := hl.cap
  clear hl b1 b2 hr0 hr1 hF
  go_enter Try.func16, Try.ntmps16
  go_wp2_with fail
  rw [← hw2]
  clear hw2
  go_loopw [6] (fun y wr => ∃ j : Nat, j ≤ n ∧ y = .int .i64 j ∧ wr = w2 ∧ Hid (∀ q (hq : q < es.length), q < j → (fun e : En => e.i == t) es[q] = false)) (fun y _ => n - (intOf y).toNat)
  case atStart => exact ⟨0, Nat.zero_le _, rfl, rfl, Lib.hid (fun _ _ h => absurd h (Nat.not_lt_zero _))⟩
  case round =>
    obtain ⟨j, hj, rfl, rfl, hno⟩ := hrel
    obtain ⟨x0, x1, x2, x3⟩ := HR0.out.two
    obtain ⟨d0, d1, d2, d3⟩ := HR1.out.three
    have g0 := HR1.out.frozen 0
    have g1 := HR1.out.frozen 1
    have g2 := HR1.out.frozen 2
    by_cases hlt : j < n
    · have hz : (j : Int) < (n : Int) := by omega
      obtain ⟨ga, oa, rfl, hga, hes⟩ := HL.out.at_ (by omega)
      have hjk : j < es.length := by rw [HLN.out]; exact hlt
      obtain ⟨s0, s1, s2⟩ := hes.en j hjk
      have hga' : ga < wr.heap.size := Nat.lt_of_lt_of_le (HF.out ga hga) HB2.out.size
      obtain ⟨e, he⟩ : ∃ e, es[j]'hjk = e := ⟨_, rfl⟩
      rw [he] at s0 s1 s2
      cases hei : (e.i == t) with
      | true =>
        have hee : e.i = t := by simpa using hei
        rw [hee] at s1
        obtain ⟨k0, k1, k2, _⟩ := (HR1.out.put3 (.string ⟨e.t.toArray⟩) (.string ⟨t.toArray⟩) (.slice e.A e.n e.c)).three
        have HFD := Lib.hid (show es.find? (fun e => e.i == t) = some e by
          rcases (show IdxIs (fun e => e.i == t) es j from .inl ⟨j, rfl, hjk, by simp only [he]; exact hei, fun q hq => hno.out q (by omega) hq⟩).find with ⟨h, _⟩ | ⟨k, hk, h, h2, _⟩
          · omega
          · obtain rfl : j = k := by omega
            rw [h2, he])
        have HB := Lib.hid (((HB2.out.setCell (p := ⟨w.heap.size + 1, 0, none⟩) (by simp) (.string ⟨e.t.toArray⟩)).setCell (p := ⟨w.heap.size + 1, 1, none⟩) (by simp) (.string ⟨t.toArray⟩)).setCell (p := ⟨w.heap.size + 1, 2, none⟩) (by simp) (.slice e.A e.n e.c))
        have HEE := Lib.hid hee
        clear hes hno he hei hee hjk
        go_wp2_with fail
        refine bodyPost_ret (by simp [results, Try.results16, go_sem, k0, k1, k2]; try rfl) rfl ?_
        rw [HFD.out]
        exact ⟨HB.out, e, by rw [HEE.out]; rfl, .inl rfl⟩
      | false =>
        have hee : ¬ e.i = t := by simpa using hei
        have HN := Lib.hid (show ∀ q (hq : q < es.length), q < j + 1 → (fun e : En => e.i == t) es[q] = false from fun q hq h => by
          by_cases hqj : q = j
          · subst hqj
            simp only [he]
            exact hei
          · exact hno.out q hq (by omega))
        clear hes he hjk
        go_wp2_with fail
        exact ⟨⟨j + 1, by omega, by go_num, trivial, HN⟩, by simp [intOf]; omega⟩
    · obtain rfl : j = n := by omega
      have hz : ¬ ((j : Int) < (j : Int)) := by omega
      obtain ⟨k0, k1, k2, _⟩ := (HR1.out.put3 (.string ⟨[].toArray⟩) (.string ⟨[].toArray⟩) (.slice none 0 0)).three
      have HFD := Lib.hid (show es.find? (fun e => e.i == t) = none by
        rw [List.find?_eq_none]
        intro x hx
        obtain ⟨q, hq, rfl⟩ := List.mem_iff_getElem.1 hx
        have := hno.out q hq (by rw [← HLN.out]; exact hq)
        simp only at this
        simp [this])
      have HB := Lib.hid (((HB2.out.setCell (p := ⟨w.heap.size + 1, 0, none⟩) (by simp) (.string ⟨[].toArray⟩)).setCell (p := ⟨w.heap.size + 1, 1, none⟩) (by simp) (.string ⟨[].toArray⟩)).setCell (p := ⟨w.heap.size + 1, 2, none⟩) (by simp) (.slice none 0 0))
      clear hno
      go_wp2_with fail
      refine bodyPost_ret (by simp [results, Try.results16, go_sem, k0, k1, k2]; try rfl) rfl ?_
      rw [HFD.out]
      exact ⟨HB.out, en0, rfl, .inr ⟨fun x hx => by simpa using List.find?_eq_none.1 HFD.out x hx, rfl⟩⟩
theorem Row.set_last {w : World} {p : Nat} {ty : TypeId} {a b : Value} (h : Row w p ty #[a, b]) (y : Value) : Row (w.setCell ⟨p, 1, none⟩ y) p ty #[a, y] := by
  have := h.set_ 1 y
  simpa using this
theorem Row.put2 {w : World} {p : Nat} {ty : TypeId} {a b : Value} (h : Row w p ty #[a, b]) (x y : Value) : Row ((w.setCell ⟨p, 0, none⟩ x).setCell ⟨p, 1, none⟩ y) p ty #[x, y] := by
  have := (h.set_ 0 x).set_ 1 y
  simpa using this
theorem ER.far {w : World} {base b i : Nat} {v : Value} {es : List En} (h : ER w base v es) (hb : b < base) (u : Value) : ER (w.setCell ⟨b, i, none⟩ u) base v es := own_far h hb u
set_option maxHeartbeats 1000000 in
theorem rdrop_any {F : Nat → Prop} {A : Option Addr} {n c : Nat} {es : List En} (N0 : Int) (t : List UInt8) (w : World) (hl : RL F w A n c es) (hF : ∀ g, F g → g < w.heap.size) (hn : n ≤ 274877906944) :
    Calls Try.prog 18 #[.agg #[.int .i64 N0, .slice A n c], .string ⟨t.toArray⟩] w fun r w' => Below w.heap.size w w' ∧ ∃ v, r = .returned (.tuple #[.agg #[.int .i64 N0, v], .bool (es.any fun e => e.i == t)]) ∧ ER w' w.heap.size v (es.filter fun e => !(e.i == t)) := by
  have b1 := below_new (Below.refl w.heap.size w) (.cells #[.int .i64 N0, .slice A n c] 28)
  have b2 := below_new b1 (.cells #[.int .i64 0, .slice none 0 0] 28)
  obtain ⟨w2, hw2⟩ : ∃ w2, w2 = (w.alloc (.cells #[.int .i64 N0, .slice A n c] 28)).alloc (.cells #[.int .i64 0, .slice none 0 0] 28) := ⟨_, rfl⟩
  have hr0 := (Row.new w 28 #[.int .i64 N0, .slice A n c]).alloc (.cells #[.int .i64 0, .slice none 0 0] 28)
  have hr1 := Row.new (w.alloc (.cells #[.int .i64 N0, .slice A n c] 28)) 28 #[.int .i64 0, .slice none 0 0]
  rw [Row.lt_new] at hr1
  rw [← hw2] at b2 hr0 hr1
  have hs2 : w2.heap.size = w.heap.size + 2 := by rw [hw2]; simp
  have HL := Lib.hid (hl.below hF b2)
  have HR0 := Lib.hid hr0
  have HR1 := Lib.hid hr1
  have HB2 := Lib.hid b2
  have HF := Lib.hid hF
  have HLN := Lib.hid hl.len
  have HS2 := Lib.hid hs2
  have hc1 := hl.cap
  clear hl b1 b2 hr0 hr1 hF hs2
  go_enter Try.func18, Try.ntmps18
  go_wp2_with fail
  rw [← hw2]
  clear hw2
  go_loopw [6, 7, 8] (fun x b y wr => ∃ j : Nat, j ≤ n ∧ y = .int .i64 j ∧ b = .bool ((es.take j).any fun e => e.i == t) ∧ Hid (ER wr w2.heap.size x ((es.take j).filter fun e => !(e.i == t))) ∧ Hid (Below w2.heap.size w2 wr)) (fun _ _ y _ => n - (intOf y).toNat)
  case atStart => exact ⟨0, Nat.zero_le _, rfl, rfl, Lib.hid (World.ownsRow_nil _ _ _ _), Lib.hid (Below.refl _ _)⟩
  case round =>
    obtain ⟨j, hj, rfl, hbq, hE, hB⟩ := hrel
    obtain ⟨bb, hbb⟩ : ∃ bb, ((es.take j).any fun e => e.i == t) = bb := ⟨_, rfl⟩
    rw [hbb] at hbq
    subst hbq
    have hR0 := HR0.out.below hB.out HR0.out.lt
    obtain ⟨x0, x1, x2, x3⟩ := hR0.two
    by_cases hlt : j < n
    · have hz : (j : Int) < (n : Int) := by omega
      have hLr := HL.out.below (fun g hg => Nat.lt_of_lt_of_le (HF.out g hg) HB2.out.size) hB.out
      obtain ⟨ga, oa, rfl, hga, hes⟩ := hLr.at_ (by omega)
      have hjk : j < es.length := by rw [HLN.out]; exact hlt
      obtain ⟨s0, s1, s2⟩ := hes.en j hjk
      have hga' : ga < wr.heap.size := Nat.lt_of_lt_of_le (Nat.lt_of_lt_of_le (HF.out ga hga) HB2.out.size) hB.out.size
      have htk : es.take (j + 1) = es.take j ++ [es[j]'hjk] := List.take_succ_eq_append_getElem hjk
      obtain ⟨e, he⟩ : ∃ e, es[j]'hjk = e := ⟨_, rfl⟩
      rw [he] at s0 s1 s2 htk
      have HTK := Lib.hid htk
      have HBB := Lib.hid hbb
      cases hei : (e.i == t) with
      | true =>
        have hee : e.i = t := by simpa using hei
        rw [hee] at s1
        have HEI := Lib.hid hei
        clear hR0 hLr hes he hei htk hbb hjk hee
        go_wp2_with fail
        exact ⟨⟨j + 1, by omega, by go_num, by rw [HTK.out, List.any_append]; simp [HEI.out], Lib.hid (by rw [HTK.out, List.filter_append]; simp only [List.filter_cons, HEI.out, Bool.not_true, List.filter_nil]; simpa using hE.out), hB⟩, by simp [intOf]; omega⟩
      | false =>
        have hee : ¬ e.i = t := by simpa using hei
        have HEI := Lib.hid hei
        have b3 := below_new (Below.refl wr.heap.size wr) (.cells #[.string ⟨e.t.toArray⟩, .string ⟨e.i.toArray⟩, .slice e.A e.n e.c] 36)
        have hlen : ((es.take j).filter fun e => !(e.i == t)).length ≤ j := Nat.le_trans (List.length_filter_le _ _) (by rw [List.length_take]; omega)
        have hE3 := hE.out.below b3
        obtain ⟨v', w', hrun, hel, hgr⟩ := hE3.run_snoc e (Row.new wr 36 #[.string ⟨e.t.toArray⟩, .string ⟨e.i.toArray⟩, .slice e.A e.n e.c]) (Nat.le_trans hB.out.size b3.size) (by omega) 26
        have HE' := Lib.hid (show ER w' w2.heap.size v' ((es.take (j + 1)).filter fun e => !(e.i == t)) by
          rw [htk, List.filter_append]
          simp only [List.filter_cons, hei, Bool.not_false, if_true, List.filter_nil]
          exact hel)
        have HB' := Lib.hid ((below_then hB.out b3).grown hgr (Nat.le_trans hB.out.size b3.size) (fun q hq => (World.ownsRow.lt hE3 q hq).1))
        have HRUN := Lib.hid hrun
        clear hR0 hLr hes he htk hbb hjk hel hgr hE3 hrun b3 hlen
        go_wp2_with (at_builtin; refine Lib.wpList_append_run _ rfl _ _ _ _ rfl _ _ rfl rfl _ _ HRUN.out ?_)
        exact ⟨⟨j + 1, by omega, by go_num, by rw [HTK.out, List.any_append, HBB.out]; simp [HEI.out], HE', HB'⟩, by simp [intOf]; omega⟩
    · obtain rfl : j = n := by omega
      have hz : ¬ ((j : Int) < (j : Int)) := by omega
      have hR1 := HR1.out.below hB.out HR1.out.lt
      have HAll := Lib.hid (show es.take j = es from List.take_of_length_le (by rw [HLN.out]; exact Nat.le_refl _))
      obtain ⟨A', c', hv, _⟩ := hE.out.form
      generalize hq : ((es.take j).filter fun e => !(e.i == t)).length = q at hv
      subst hv
      have f0 := hR0.frozen 1
      have hR0' := hR0.set_last (.slice A' q c')
      have hR1' := hR1.far (p := ⟨w.heap.size, 1, none⟩) (by simp) (.slice A' q c')
      obtain ⟨z0, z1, z2, z3⟩ := hR0'.two
      obtain ⟨d0, d1, d2, d3⟩ := hR1'.two
      have g0 := hR1'.frozen 0
      have g1 := hR1'.frozen 1
      obtain ⟨k0, k1, _, _⟩ := (hR1'.put2 (.int .i64 N0) (.slice A' q c')).two
      have hsl : w.heap.size + 1 < w2.heap.size := by rw [HS2.out]; omega
      have HEf := Lib.hid (((hE.out.far (b := w.heap.size) (i := 1) (by omega) (.slice A' q c')).far (b := w.heap.size + 1) (i := 0) hsl (.int .i64 N0)).far (b := w.heap.size + 1) (i := 1) hsl (.slice A' q c'))
      have HBf := Lib.hid ((((below_then HB2.out hB.out).setCell (p := ⟨w.heap.size, 1, none⟩) (by simp) (.slice A' q c')).setCell (p := ⟨w.heap.size + 1, 0, none⟩) (by simp) (.int .i64 N0)).setCell (p := ⟨w.heap.size + 1, 1, none⟩) (by simp) (.slice A' q c'))
      have HBB := Lib.hid hbb
      clear hR0 hR1 hR0' hR1' hbb hq
      go_wp2_with fail
      refine bodyPost_ret (by simp [results, Try.results18, go_sem, k0, k1]; try rfl) rfl ?_
      refine ⟨HBf.out, .slice A' q c', ?_, ?_⟩
      · rw [← HBB.out, HAll.out]
      · have := HEf.out
        rw [HAll.out] at this
        exact (World.ownsRow.mono this (by rw [HS2.out]; omega))
end Go.Proofs.Ytfcopniihcaefaa
