/- prepared: the document's Text and Put. Of at most 2^38 entries. -/
import Derived.Test.YtfcopniihcaefaaPU
import Derived.Deep.DeepCutAuto
namespace Go.Proofs.Ytfcopniihcaefaa
open Go.RowKit
theorem ES.take {w : World} {g o : Nat} {es : List En} (h : ES w g o es) (k : Nat) : ES w g o (es.take k) := by
  have hl : ∀ j, j < (es.take k).length → j < es.length := fun j hj => by rw [List.length_take] at hj; omega
  exact ⟨fun j hj => by rw [List.getElem_take]; exact h.t j (hl j hj), fun j hj => by rw [List.getElem_take]; exact h.i j (hl j hj), fun j hj => by rw [List.getElem_take]; exact h.k j (hl j hj)⟩
theorem ES.drop {w : World} {g o : Nat} {es : List En} (h : ES w g o es) (k : Nat) : ES w g (o + k * 3) (es.drop k) := by
  have hl : ∀ j, j < (es.drop k).length → k + j < es.length := fun j hj => by rw [List.length_drop] at hj; omega
  have he : ∀ j, o + k * 3 + j * 3 = o + (k + j) * 3 := fun j => by omega
  exact ⟨fun j hj => by rw [List.getElem_drop, he]; exact h.t (k + j) (hl j hj), fun j hj => by rw [List.getElem_drop, he]; exact h.i (k + j) (hl j hj), fun j hj => by rw [List.getElem_drop, he]; exact h.k (k + j) (hl j hj)⟩
theorem ER.drew {w : World} {base : Nat} {v : Value} {es : List En} (h : ER w base v es) : ER w.drew base v es := h
theorem ER.one {w : World} {base g : Nat} {e : En} (h : Row w g 36 (enCells e).toArray) (hb : base ≤ g) : ER w base (.slice (some ⟨g, 0, none⟩) 1 1) [e] :=
  ⟨rfl, .inr ⟨g, 1, (enCells e).toArray, rfl, hb, h, Nat.le_refl _, by decide, rfl, rfl⟩⟩
theorem ES.nil_ (w : World) (g o : Nat) : ES w g o [] := ⟨fun k hk => absurd hk (by simp), fun k hk => absurd hk (by simp), fun k hk => absurd hk (by simp)⟩
theorem ES.far' {w w' : World} {g o : Nat} {es : List En} (h : ES w g o es) (hh : w'.heap[g]? = w.heap[g]?) : ES w' g o es :=
  ⟨fun k hk => (cell_same hh).trans (h.t k hk), fun k hk => (cell_same hh).trans (h.i k hk), fun k hk => (cell_same hh).trans (h.k k hk)⟩
set_option maxHeartbeats 1000000 in
theorem rtext_any {F : Nat → Prop} {A : Option Addr} {n c : Nat} {es : List En} (N0 : Int) (t : List UInt8) (w : World) (hl : RL F w A n c es) (hF : ∀ g, F g → g < w.heap.size) (hn : n ≤ 274877906944) :
    Calls Try.prog 13 #[.agg #[.int .i64 N0, .slice A n c], .string ⟨t.toArray⟩] w fun r w' => Below w.heap.size w w' ∧ ((es.find? (fun e => e.t == t) = none ∧ r = .returned (.tuple #[.agg #[.int .i64 N0, .slice A n c], .agg #[.string ⟨[].toArray⟩, .string ⟨[].toArray⟩, .slice none 0 0], .bool false])) ∨
      ∃ e v, es.find? (fun e => e.t == t) = some e ∧ r = .returned (.tuple #[.agg #[.int .i64 N0, v], .agg #[.string ⟨e.t.toArray⟩, .string ⟨e.i.toArray⟩, .slice e.A e.n e.c], .bool true]) ∧ ER w' w.heap.size v (e :: es.eraseIdx (es.findIdx fun e => e.t == t))) := by
  have b1 := below_new (Below.refl w.heap.size w) (.cells #[.int .i64 N0, .slice A n c] 28)
  have b2 := below_new b1 (.cells #[.int .i64 0, .slice none 0 0] 28)
  have b3 := below_new b2 (.cells #[.string ⟨[].toArray⟩, .string ⟨[].toArray⟩, .slice none 0 0] 36)
  obtain ⟨w2, hw2⟩ : ∃ w2, w2 = ((w.alloc (.cells #[.int .i64 N0, .slice A n c] 28)).alloc (.cells #[.int .i64 0, .slice none 0 0] 28)).alloc (.cells #[.string ⟨[].toArray⟩, .string ⟨[].toArray⟩, .slice none 0 0] 36) := ⟨_, rfl⟩
  have hr0 := ((Row.new w 28 #[.int .i64 N0, .slice A n c]).alloc (.cells #[.int .i64 0, .slice none 0 0] 28)).alloc (.cells #[.string ⟨[].toArray⟩, .string ⟨[].toArray⟩, .slice none 0 0] 36)
  have hr1 := (Row.new (w.alloc (.cells #[.int .i64 N0, .slice A n c] 28)) 28 #[.int .i64 0, .slice none 0 0]).alloc (.cells #[.string ⟨[].toArray⟩, .string ⟨[].toArray⟩, .slice none 0 0] 36)
  have hr2 := Row.new ((w.alloc (.cells #[.int .i64 N0, .slice A n c] 28)).alloc (.cells #[.int .i64 0, .slice none 0 0] 28)) 36 #[.string ⟨[].toArray⟩, .string ⟨[].toArray⟩, .slice none 0 0]
  rw [Row.lt_new] at hr1
  rw [Row.lt_new, Row.lt_new] at hr2
  rw [← hw2] at b3 hr0 hr1 hr2
  have hs2 : w2.heap.size = w.heap.size + 3 := by rw [hw2]; simp
  have HL := Lib.hid (hl.below hF b3)
  have HR0 := Lib.hid hr0
  have HR1 := Lib.hid hr1
  have HR2 := Lib.hid hr2
  have HB2 := Lib.hid b3
  have HF := Lib.hid hF
  have HLN := Lib.hid hl.len
  have HS2 := Lib.hid hs2
  have hc1 := hl.cap
  have hcm := hl.max
  unfold maxLen at hcm
  clear hl b1 b2 b3 hr0 hr1 hr2 hF hs2
  go_enter Try.func13, Try.ntmps13
  go_wp2_with fail
  rw [← hw2]
  clear hw2
  go_loopw [7] (fun y wr => ∃ j : Nat, j ≤ n ∧ y = .int .i64 j ∧ wr = w2 ∧ Hid (∀ q (hq : q < es.length), q < j → (fun e : En => e.t == t) es[q] = false)) (fun y _ => n - (intOf y).toNat)
  case atStart => exact ⟨0, Nat.zero_le _, rfl, rfl, Lib.hid (fun _ _ h => absurd h (Nat.not_lt_zero _))⟩
  case round =>
    obtain ⟨j, hj, rfl, rfl, hno⟩ := hrel
    obtain ⟨x0, x1, x2, x3⟩ := HR0.out.two
    by_cases hlt : j < n
    · have hz : (j : Int) < (n : Int) := by omega
      obtain ⟨ga, oa, rfl, hga, hes⟩ := HL.out.at_ (by omega)
      have hjk : j < es.length := by rw [HLN.out]; exact hlt
      obtain ⟨s0, s1, s2⟩ := hes.en j hjk
      have hga' : ga < wr.heap.size := Nat.lt_of_lt_of_le (HF.out ga hga) HB2.out.size
      obtain ⟨e, he⟩ : ∃ e, es[j]'hjk = e := ⟨_, rfl⟩
      rw [he] at s0 s1 s2
      cases hei : (e.t == t) with
      | true =>
        have hee : e.t = t := by simpa using hei
        have HIX := Lib.hid (show es.find? (fun e => e.t == t) = some e ∧ es.findIdx (fun e => e.t == t) = j by
          rcases (show IdxIs (fun e => e.t == t) es j from .inl ⟨j, rfl, hjk, by simp only [he]; exact hei, fun q hq => hno.out q (by omega) hq⟩).find with ⟨h, _⟩ | ⟨k, hk, h, h2, h3, _⟩
          · omega
          · obtain rfl : j = k := by omega
            exact ⟨by rw [h2, he], h3⟩)
        subst hee
        have hen : es.drop j = e :: es.drop (j + 1) := by rw [List.drop_eq_getElem_cons hjk, he]
        have hel : es.eraseIdx j = es.take j ++ es.drop (j + 1) := List.eraseIdx_eq_take_drop_succ ..
        have b3 := below_new (Below.refl wr.heap.size wr) (.cells #[.string ⟨e.t.toArray⟩, .string ⟨e.i.toArray⟩, .slice e.A e.n e.c] 36)
        have b4 := below_new b3 (.cells #[.string ⟨e.t.toArray⟩, .string ⟨e.i.toArray⟩, .slice e.A e.n e.c] 36)
        have hq3 := (Row.new wr 36 #[.string ⟨e.t.toArray⟩, .string ⟨e.i.toArray⟩, .slice e.A e.n e.c]).alloc (.cells #[.string ⟨e.t.toArray⟩, .string ⟨e.i.toArray⟩, .slice e.A e.n e.c] 36)
        have hq4 := Row.new (wr.alloc (.cells #[.string ⟨e.t.toArray⟩, .string ⟨e.i.toArray⟩, .slice e.A e.n e.c] 36)) 36 #[.string ⟨e.t.toArray⟩, .string ⟨e.i.toArray⟩, .slice e.A e.n e.c]
        rw [Row.lt_new] at hq4
        obtain ⟨w4, hw4⟩ : ∃ w4, (wr.alloc (.cells #[.string ⟨e.t.toArray⟩, .string ⟨e.i.toArray⟩, .slice e.A e.n e.c] 36)).alloc (.cells #[.string ⟨e.t.toArray⟩, .string ⟨e.i.toArray⟩, .slice e.A e.n e.c] 36) = w4 := ⟨_, rfl⟩
        have hs4 : w4.heap.size = wr.heap.size + 2 := by rw [← hw4]; simp
        rw [hw4] at b4 hq3 hq4
        have hE4 : ER w4 (wr.heap.size + 1) (.slice (some ⟨wr.heap.size + 1, 0, none⟩) 1 1) [e] := ER.one hq4 (Nat.le_refl _)
        have hes4 := hes.far' (b4.block ga hga')
        have htl : (es.take j).length = j := by rw [List.length_take]; omega
        obtain ⟨v5, w5, hrun5, hE5, hg5⟩ := hE4.run_many htl (hes4.take j) (by omega) (by simp) (by omega) (c := c) 26
        have b5 : Below (wr.heap.size + 1) w4 w5 := (Below.refl _ w4).grown hg5 (by omega) (fun q hq => (World.ownsRow.lt hE4 q hq).1)
        have hes5 := hes4.far' (b5.block ga (by omega))
        have hs5 : wr.heap.size + 2 ≤ w5.heap.size := by have := b5.size; omega
        obtain ⟨x0, x1, x2, x3⟩ := (HR0.out.below b4 HR0.out.lt).two
        have HRUN5 := Lib.hid hrun5
        have HE5 := Lib.hid hE5
        have HES5 := Lib.hid hes5
        have HEL := Lib.hid hel
        have HLE5 := Lib.hid (show ([e] ++ es.take j).length ≤ 549755813888 by simp; omega)
        have HDL := Lib.hid (show (es.drop (j + 1)).length = n - (j + 1) by rw [List.length_drop, HLN.out])
        have HR05 := Lib.hid ((HR0.out.below b4 HR0.out.lt).below b5 (by have := HR0.out.lt; omega))
        have HR15 := Lib.hid ((HR1.out.below b4 HR1.out.lt).below b5 (by have := HR1.out.lt; omega))
        have HR25 := Lib.hid ((HR2.out.below b4 HR2.out.lt).below b5 (by have := HR2.out.lt; omega))
        have HQ5 := Lib.hid (hq3.below b5 (by omega))
        have HB5 := Lib.hid ((HB2.out.trans (b4.mono (by have := HS2.out; omega))).trans (b5.mono (by have := HS2.out; omega)))
        have hz5 : (j : Int) ≤ (n : Int) := by omega
        have hz6 : (j : Int) ≤ (c : Int) := by omega
        have hz7 : j ≤ c := by omega
        have hwr : IntKind.i64.wrap ((j : Int) + 1) = (j : Int) + 1 := by rw [IntKind.wrap_i64]; omega
        have hga5 : ga < w5.heap.size := by omega
        clear hes hno he hei hjk hen hel b3 b4 b5 hq3 hq4 hE4 hes4 htl hrun5 hE5 hg5 hes5
        subst hw4
        go_upto_region 8 with (at_builtin; refine Lib.wpList_append_run _ rfl _ _ _ _ rfl _ _ rfl rfl _ _ HRUN5.out ?_)
        by_cases hcj : c = j + 1
        · subst hcj
          have hnj : n - (j + 1) = 0 := by omega
          have hdn : es.drop (j + 1) = [] := List.length_eq_zero_iff.1 (by rw [HDL.out]; omega)
          obtain ⟨v6, w6, hrun6, hE6, hg6⟩ := HE5.out.run_many (xs := es.drop (j + 1)) (n := 0) (by rw [hdn]; rfl) (by rw [hdn]; exact ES.nil_ _ ga oa) (by omega) HLE5.out (by omega) (c := 0) 26
          have b6 : Below (wr.heap.size + 1) w5 w6 := (Below.refl _ w5).grown hg6 (by omega) (fun q hq => (World.ownsRow.lt HE5.out q hq).1)
          obtain ⟨A6, c6, rfl, _⟩ := hE6.form
          generalize hq : ([e] ++ es.take j ++ es.drop (j + 1)).length = q at hrun6 hE6
          have hR0 := HR05.out.below b6 (by have := HR0.out.lt; omega)
          have hR1 := HR15.out.below b6 (by have := HR1.out.lt; omega)
          have hR2 := HR25.out.below b6 (by have := HR2.out.lt; omega)
          have hQ6 := HQ5.out.below b6 (by omega)
          have HB6 := Lib.hid (HB5.out.trans (b6.mono (by have := HS2.out; omega)))
          have HE6 := Lib.hid hE6
          have HRUN6 := Lib.hid hrun6
          have f0 := hR0.frozen 1
          obtain ⟨x0, x1, x2, x3⟩ := HR05.out.two
          obtain ⟨o0, o1, o2, o3⟩ := hR0.two
          have hR0' := hR0.set_last (.slice A6 q c6)
          have hR1' := hR1.far (p := ⟨w.heap.size, 1, none⟩) (by simp) (.slice A6 q c6)
          have hR2' := hR2.far (p := ⟨w.heap.size, 1, none⟩) (by simp; omega) (.slice A6 q c6)
          have hQ6' := hQ6.far (p := ⟨w.heap.size, 1, none⟩) (by have := HR0.out.lt; simp; omega) (.slice A6 q c6)
          have HR0' := Lib.hid hR0'
          have HR1' := Lib.hid hR1'
          have HR2' := Lib.hid hR2'
          have HQ6' := Lib.hid hQ6'
          clear hR0 hR1 hR2 hQ6 hR0' hR1' hR2' hQ6' b6 hrun6 hE6 hg6 hq
          go_upto_region 9 with (at_builtin; refine Lib.wpList_append_run _ rfl _ _ _ _ rfl _ _ rfl rfl _ _ HRUN6.out ?_)
          have HE7 := Lib.hid (HE6.out.far (b := w.heap.size) (i := 1) (by have := HR0.out.lt; omega) (.slice A6 q c6))
          have HB7 := Lib.hid (HB6.out.setCell (p := ⟨w.heap.size, 1, none⟩) (by simp) (.slice A6 q c6))
          obtain ⟨w7, hw7⟩ : ∃ w7, w6.setCell ⟨w.heap.size, 1, none⟩ (.slice A6 q c6) = w7 := ⟨_, rfl⟩
          rw [hw7] at HR0' HR1' HR2' HQ6' HE7 HB7
          rw [hw7]
          clear hw7 x0 x1 x2 x3 o0 o1 o2 o3 f0 s0 s1 s2
          obtain ⟨x0, x1, x2, x3⟩ := HR0'.out.two
          obtain ⟨y0, y1, y2, y3⟩ := HQ6'.out.three
          obtain ⟨d0, d1, d2, d3⟩ := HR1'.out.two
          obtain ⟨e0, e1, e2, e3⟩ := HR2'.out.three
          have g0 := HR1'.out.frozen 0
          have g1 := HR1'.out.frozen 1
          have h0 := HR2'.out.frozen 0
          have h1 := HR2'.out.frozen 1
          have h2 := HR2'.out.frozen 2
          clear hs4
          have hne1 : ¬ wr.heap.size = w.heap.size + 1 := by have := HS2.out; omega
          have hne2 : ¬ w.heap.size + 1 = wr.heap.size := fun e => hne1 e.symm
          have hne3 : ¬ wr.heap.size = w.heap.size + 1 + 1 := by have := HS2.out; omega
          have hne4 : ¬ w.heap.size + 1 + 1 = wr.heap.size := fun e => hne3 e.symm
          have hR1a := HR1'.out.put2 (.int .i64 N0) (.slice A6 q c6)
          have hR2a := (HR2'.out.far (p := ⟨w.heap.size + 1, 0, none⟩) (by simp) (.int .i64 N0)).far (p := ⟨w.heap.size + 1, 1, none⟩) (by simp) (.slice A6 q c6)
          have hR1f := ((hR1a.far (p := ⟨w.heap.size + 1 + 1, 0, none⟩) (by simp) (.string ⟨e.t.toArray⟩)).far (p := ⟨w.heap.size + 1 + 1, 1, none⟩) (by simp) (.string ⟨e.i.toArray⟩)).far (p := ⟨w.heap.size + 1 + 1, 2, none⟩) (by simp) (.slice e.A e.n e.c)
          have hR2f := hR2a.put3 (.string ⟨e.t.toArray⟩) (.string ⟨e.i.toArray⟩) (.slice e.A e.n e.c)
          obtain ⟨m0d, m1d, _, _⟩ := hR1f.drew.two
          obtain ⟨k0d, k1d, k2d, _⟩ := hR2f.drew.three
          have HBF := Lib.hid (((((HB7.out.setCell (p := ⟨w.heap.size + 1, 0, none⟩) (by simp) (.int .i64 N0)).setCell (p := ⟨w.heap.size + 1, 1, none⟩) (by simp) (.slice A6 q c6)).setCell (p := ⟨w.heap.size + 1 + 1, 0, none⟩) (by simp; omega) (.string ⟨e.t.toArray⟩)).setCell (p := ⟨w.heap.size + 1 + 1, 1, none⟩) (by simp; omega) (.string ⟨e.i.toArray⟩)).setCell (p := ⟨w.heap.size + 1 + 1, 2, none⟩) (by simp; omega) (.slice e.A e.n e.c) |>.drew)
          have HEF := Lib.hid (show ER _ w.heap.size (.slice A6 q c6) (e :: es.eraseIdx (es.findIdx fun x => x.t == e.t)) from by
            have h := ((((HE7.out.far (b := w.heap.size + 1) (i := 0) (by have := HS2.out; omega) (.int .i64 N0)).far (b := w.heap.size + 1) (i := 1) (by have := HS2.out; omega) (.slice A6 q c6)).far (b := w.heap.size + 1 + 1) (i := 0) (by have := HS2.out; omega) (.string ⟨e.t.toArray⟩)).far (b := w.heap.size + 1 + 1) (i := 1) (by have := HS2.out; omega) (.string ⟨e.i.toArray⟩)).far (b := w.heap.size + 1 + 1) (i := 2) (by have := HS2.out; omega) (.slice e.A e.n e.c)
            rw [List.append_assoc, ← HEL.out, ← HIX.out.2] at h
            exact World.ownsRow.mono h (by have := HS2.out; omega))
          clear hR1a hR2a hR1f hR2f
          go_region_with fail
          all_goals go_wp2_with fail
          all_goals refine bodyPost_ret (by simp [results, Try.results13, go_sem, k0d, k1d, k2d, m0d, m1d]; try rfl) rfl ?_
          all_goals exact ⟨HBF.out, .inr ⟨e, .slice A6 q c6, HIX.out.1, rfl, HEF.out.drew⟩⟩
        · have hcj2 : c ≠ j + 1 := hcj
          have hk1 : j + 1 ≤ n := hlt
          have hk2 : n - (j + 1) ≤ c - (j + 1) := by omega
          have hk3 : ¬ n < j + 1 := by omega
          have hk4 : (0 : Int) ≤ (j : Int) + 1 := by omega
          have hk5 : (j : Int) + 1 ≤ (n : Int) := by omega
          have hk6 : j + 1 ≤ c := by omega
          have hk7 : (j : Int) + 1 ≤ (c : Int) := by omega
          obtain ⟨v6, w6, hrun6, hE6, hg6⟩ := HE5.out.run_many (xs := es.drop (j + 1)) HDL.out (HES5.out.drop (j + 1)) (by omega) HLE5.out (by omega) (c := c - (j + 1)) 26
          have b6 : Below (wr.heap.size + 1) w5 w6 := (Below.refl _ w5).grown hg6 (by omega) (fun q hq => (World.ownsRow.lt HE5.out q hq).1)
          obtain ⟨A6, c6, rfl, _⟩ := hE6.form
          generalize hq : ([e] ++ es.take j ++ es.drop (j + 1)).length = q at hrun6 hE6
          have hR0 := HR05.out.below b6 (by have := HR0.out.lt; omega)
          have hR1 := HR15.out.below b6 (by have := HR1.out.lt; omega)
          have hR2 := HR25.out.below b6 (by have := HR2.out.lt; omega)
          have hQ6 := HQ5.out.below b6 (by omega)
          have HB6 := Lib.hid (HB5.out.trans (b6.mono (by have := HS2.out; omega)))
          have HE6 := Lib.hid hE6
          have HRUN6 := Lib.hid hrun6
          have f0 := hR0.frozen 1
          obtain ⟨x0, x1, x2, x3⟩ := HR05.out.two
          obtain ⟨o0, o1, o2, o3⟩ := hR0.two
          have hR0' := hR0.set_last (.slice A6 q c6)
          have hR1' := hR1.far (p := ⟨w.heap.size, 1, none⟩) (by simp) (.slice A6 q c6)
          have hR2' := hR2.far (p := ⟨w.heap.size, 1, none⟩) (by simp; omega) (.slice A6 q c6)
          have hQ6' := hQ6.far (p := ⟨w.heap.size, 1, none⟩) (by have := HR0.out.lt; simp; omega) (.slice A6 q c6)
          have HR0' := Lib.hid hR0'
          have HR1' := Lib.hid hR1'
          have HR2' := Lib.hid hR2'
          have HQ6' := Lib.hid hQ6'
          clear hR0 hR1 hR2 hQ6 hR0' hR1' hR2' hQ6' b6 hrun6 hE6 hg6 hq
          go_upto_region 9 with (at_builtin; refine Lib.wpList_append_run _ rfl _ _ _ _ rfl _ _ rfl rfl _ _ HRUN6.out ?_)
          have HE7 := Lib.hid (HE6.out.far (b := w.heap.size) (i := 1) (by have := HR0.out.lt; omega) (.slice A6 q c6))
          have HB7 := Lib.hid (HB6.out.setCell (p := ⟨w.heap.size, 1, none⟩) (by simp) (.slice A6 q c6))
          obtain ⟨w7, hw7⟩ : ∃ w7, w6.setCell ⟨w.heap.size, 1, none⟩ (.slice A6 q c6) = w7 := ⟨_, rfl⟩
          rw [hw7] at HR0' HR1' HR2' HQ6' HE7 HB7
          rw [hw7]
          clear hw7 x0 x1 x2 x3 o0 o1 o2 o3 f0 s0 s1 s2
          obtain ⟨x0, x1, x2, x3⟩ := HR0'.out.two
          obtain ⟨y0, y1, y2, y3⟩ := HQ6'.out.three
          obtain ⟨d0, d1, d2, d3⟩ := HR1'.out.two
          obtain ⟨e0, e1, e2, e3⟩ := HR2'.out.three
          have g0 := HR1'.out.frozen 0
          have g1 := HR1'.out.frozen 1
          have h0 := HR2'.out.frozen 0
          have h1 := HR2'.out.frozen 1
          have h2 := HR2'.out.frozen 2
          clear hs4
          have hne1 : ¬ wr.heap.size = w.heap.size + 1 := by have := HS2.out; omega
          have hne2 : ¬ w.heap.size + 1 = wr.heap.size := fun e => hne1 e.symm
          have hne3 : ¬ wr.heap.size = w.heap.size + 1 + 1 := by have := HS2.out; omega
          have hne4 : ¬ w.heap.size + 1 + 1 = wr.heap.size := fun e => hne3 e.symm
          have hR1a := HR1'.out.put2 (.int .i64 N0) (.slice A6 q c6)
          have hR2a := (HR2'.out.far (p := ⟨w.heap.size + 1, 0, none⟩) (by simp) (.int .i64 N0)).far (p := ⟨w.heap.size + 1, 1, none⟩) (by simp) (.slice A6 q c6)
          have hR1f := ((hR1a.far (p := ⟨w.heap.size + 1 + 1, 0, none⟩) (by simp) (.string ⟨e.t.toArray⟩)).far (p := ⟨w.heap.size + 1 + 1, 1, none⟩) (by simp) (.string ⟨e.i.toArray⟩)).far (p := ⟨w.heap.size + 1 + 1, 2, none⟩) (by simp) (.slice e.A e.n e.c)
          have hR2f := hR2a.put3 (.string ⟨e.t.toArray⟩) (.string ⟨e.i.toArray⟩) (.slice e.A e.n e.c)
          obtain ⟨m0d, m1d, _, _⟩ := hR1f.drew.two
          obtain ⟨k0d, k1d, k2d, _⟩ := hR2f.drew.three
          have HBF := Lib.hid (((((HB7.out.setCell (p := ⟨w.heap.size + 1, 0, none⟩) (by simp) (.int .i64 N0)).setCell (p := ⟨w.heap.size + 1, 1, none⟩) (by simp) (.slice A6 q c6)).setCell (p := ⟨w.heap.size + 1 + 1, 0, none⟩) (by simp; omega) (.string ⟨e.t.toArray⟩)).setCell (p := ⟨w.heap.size + 1 + 1, 1, none⟩) (by simp; omega) (.string ⟨e.i.toArray⟩)).setCell (p := ⟨w.heap.size + 1 + 1, 2, none⟩) (by simp; omega) (.slice e.A e.n e.c) |>.drew)
          have HEF := Lib.hid (show ER _ w.heap.size (.slice A6 q c6) (e :: es.eraseIdx (es.findIdx fun x => x.t == e.t)) from by
            have h := ((((HE7.out.far (b := w.heap.size + 1) (i := 0) (by have := HS2.out; omega) (.int .i64 N0)).far (b := w.heap.size + 1) (i := 1) (by have := HS2.out; omega) (.slice A6 q c6)).far (b := w.heap.size + 1 + 1) (i := 0) (by have := HS2.out; omega) (.string ⟨e.t.toArray⟩)).far (b := w.heap.size + 1 + 1) (i := 1) (by have := HS2.out; omega) (.string ⟨e.i.toArray⟩)).far (b := w.heap.size + 1 + 1) (i := 2) (by have := HS2.out; omega) (.slice e.A e.n e.c)
            rw [List.append_assoc, ← HEL.out, ← HIX.out.2] at h
            exact World.ownsRow.mono h (by have := HS2.out; omega))
          clear hR1a hR2a hR1f hR2f
          go_region_with fail
          all_goals go_wp2_with fail
          all_goals refine bodyPost_ret (by simp [results, Try.results13, go_sem, k0d, k1d, k2d, m0d, m1d]; try rfl) rfl ?_
          all_goals exact ⟨HBF.out, .inr ⟨e, .slice A6 q c6, HIX.out.1, rfl, HEF.out.drew⟩⟩
      | false =>
        have hee : ¬ e.t = t := by simpa using hei
        have HN := Lib.hid (show ∀ q (hq : q < es.length), q < j + 1 → (fun e : En => e.t == t) es[q] = false from fun q hq h => by
          by_cases hqj : q = j
          · subst hqj
            simp only [he]
            exact hei
          · exact hno.out q hq (by omega))
        clear hes he hjk
        go_wp2_with fail
        exact ⟨⟨j + 1, by omega, by go_num, trivial, HN⟩, by simp [intOf]; omega⟩
    · obtain rfl : j = n := by omega
      have hz : ¬ ((j : Int) < (j : Int)) := by omega
      have hFD := show es.find? (fun e => e.t == t) = none by
        rw [List.find?_eq_none]
        intro x hx
        obtain ⟨q, hq, rfl⟩ := List.mem_iff_getElem.1 hx
        have := hno.out q hq (by rw [← HLN.out]; exact hq)
        simp only at this
        simp [this]
      have HFD := Lib.hid hFD
      obtain ⟨d0, d1, d2, d3⟩ := HR1.out.two
      have g0 := HR1.out.frozen 0
      have g1 := HR1.out.frozen 1
      have hR1' := HR1.out.put2 (.int .i64 N0) (.slice A j c)
      have hR2' := (HR2.out.far (p := ⟨w.heap.size + 1, 0, none⟩) (by simp) (.int .i64 N0)).far (p := ⟨w.heap.size + 1, 1, none⟩) (by simp) (.slice A j c)
      obtain ⟨e0, e1, e2, e3⟩ := hR2'.three
      have h0 := hR2'.frozen 0
      have h1 := hR2'.frozen 1
      have h2 := hR2'.frozen 2
      have hR1f := ((hR1'.far (p := ⟨w.heap.size + 1 + 1, 0, none⟩) (by simp) (.string ⟨[].toArray⟩)).far (p := ⟨w.heap.size + 1 + 1, 1, none⟩) (by simp) (.string ⟨[].toArray⟩)).far (p := ⟨w.heap.size + 1 + 1, 2, none⟩) (by simp) (.slice none 0 0)
      obtain ⟨m0, m1, _, _⟩ := hR1f.two
      obtain ⟨k0, k1, k2, _⟩ := (hR2'.put3 (.string ⟨[].toArray⟩) (.string ⟨[].toArray⟩) (.slice none 0 0)).three
      have HB := Lib.hid (((((HB2.out.setCell (p := ⟨w.heap.size + 1, 0, none⟩) (by simp) (.int .i64 N0)).setCell (p := ⟨w.heap.size + 1, 1, none⟩) (by simp) (.slice A j c)).setCell (p := ⟨w.heap.size + 1 + 1, 0, none⟩) (by simp; omega) (.string ⟨[].toArray⟩)).setCell (p := ⟨w.heap.size + 1 + 1, 1, none⟩) (by simp; omega) (.string ⟨[].toArray⟩)).setCell (p := ⟨w.heap.size + 1 + 1, 2, none⟩) (by simp; omega) (.slice none 0 0))
      clear hno hFD hR1' hR2' hR1f
      go_wp2_with fail
      refine bodyPost_ret (by simp [results, Try.results13, go_sem, k0, k1, k2, m0, m1]; try rfl) rfl ?_
      exact ⟨HB.out, .inl ⟨fun x hx => by simpa using List.find?_eq_none.1 HFD.out x hx, rfl⟩⟩
end Go.Proofs.Ytfcopniihcaefaa
