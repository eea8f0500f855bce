/- prepared: the document's Put. Of at most 2^38 entries. -/
import Derived.Test.YtfcopniihcaefaaPV
namespace Go.Proofs.Ytfcopniihcaefaa
open Go.RowKit
theorem ER.drewN {w : World} {base : Nat} {v : Value} {es : List En} (h : ER w base v es) (k : Nat) : ER (w.drewN k) base v es := h
set_option maxHeartbeats 1000000 in
theorem rput_any {F : Nat → Prop} {A : Option Addr} {n c : Nat} {es : List En} (N0 : Int) (m : Nat) (hm : max N0 0 = (m : Int)) (e : En) (w : World) (hl : RL F w A n c es) (hF : ∀ g, F g → g < w.heap.size) (hn : n ≤ 274877906944) :
    Calls Try.prog 10 #[.agg #[.int .i64 N0, .slice A n c], .agg #[.string ⟨e.t.toArray⟩, .string ⟨e.i.toArray⟩, .slice e.A e.n e.c]] w fun r w' => Below w.heap.size w w' ∧ ∃ v, r = .returned (.agg #[.int .i64 N0, v]) ∧ ER w' w.heap.size v ((e :: es.filter fun y => !(y.t == e.t || y.i == e.i)).take m) := by
  have hN1 : 0 ≤ N0 → N0 = (m : Int) := by omega
  have hN2 : N0 < 0 → m = 0 := by omega
  have HN1 := Lib.hid hN1
  have HN2 := Lib.hid hN2
  clear hN1 hN2 hm
  have b1 := below_new (Below.refl w.heap.size w) (.cells #[.int .i64 N0, .slice A n c] 28)
  have b2 := below_new b1 (.cells #[.string ⟨e.t.toArray⟩, .string ⟨e.i.toArray⟩, .slice e.A e.n e.c] 36)
  have b3 := below_new b2 (.cells #[.int .i64 0, .slice none 0 0] 28)
  obtain ⟨w2, hw2⟩ : ∃ w2, w2 = ((w.alloc (.cells #[.int .i64 N0, .slice A n c] 28)).alloc (.cells #[.string ⟨e.t.toArray⟩, .string ⟨e.i.toArray⟩, .slice e.A e.n e.c] 36)).alloc (.cells #[.int .i64 0, .slice none 0 0] 28) := ⟨_, rfl⟩
  have hr0 := ((Row.new w 28 #[.int .i64 N0, .slice A n c]).alloc (.cells #[.string ⟨e.t.toArray⟩, .string ⟨e.i.toArray⟩, .slice e.A e.n e.c] 36)).alloc (.cells #[.int .i64 0, .slice none 0 0] 28)
  have hr1 := (Row.new (w.alloc (.cells #[.int .i64 N0, .slice A n c] 28)) 36 #[.string ⟨e.t.toArray⟩, .string ⟨e.i.toArray⟩, .slice e.A e.n e.c]).alloc (.cells #[.int .i64 0, .slice none 0 0] 28)
  have hr2 := Row.new ((w.alloc (.cells #[.int .i64 N0, .slice A n c] 28)).alloc (.cells #[.string ⟨e.t.toArray⟩, .string ⟨e.i.toArray⟩, .slice e.A e.n e.c] 36)) 28 #[.int .i64 0, .slice none 0 0]
  rw [Row.lt_new] at hr1
  rw [Row.lt_new, Row.lt_new] at hr2
  rw [← hw2] at b3 hr0 hr1 hr2
  have hs2 : w2.heap.size = w.heap.size + 3 := by rw [hw2]; simp
  have HL := Lib.hid (hl.below hF b3)
  have HR0 := Lib.hid hr0
  have HR1 := Lib.hid hr1
  have HR2 := Lib.hid hr2
  have HB2 := Lib.hid b3
  have HF := Lib.hid hF
  have HLN := Lib.hid hl.len
  have HS2 := Lib.hid hs2
  have hc1 := hl.cap
  have hcm := hl.max
  unfold maxLen at hcm
  obtain ⟨y0, y1, y2, y3⟩ := hr1.three
  clear hl b1 b2 b3 hr0 hr1 hr2 hF hs2
  go_enter Try.func10, Try.ntmps10
  go_wp2_with fail
  rw [← hw2]
  have hw3 : (w.heap.size + 1 + 1 + 1) = w2.heap.size := by have := HS2.out; omega
  clear hw2
  have b3 := below_new (Below.refl w2.heap.size w2) (.cells #[.string ⟨e.t.toArray⟩, .string ⟨e.i.toArray⟩, .slice e.A e.n e.c] 36)
  have hE3 : ER (w2.alloc (.cells #[.string ⟨e.t.toArray⟩, .string ⟨e.i.toArray⟩, .slice e.A e.n e.c] 36)) w2.heap.size (.slice (some ⟨w.heap.size + 1 + 1 + 1, 0, none⟩) 1 1) [e] := by
    rw [hw3]
    exact ER.one (Row.new w2 36 _) (Nat.le_refl _)
  have HE3 := Lib.hid hE3
  have HB3 := Lib.hid b3
  have HW3 := Lib.hid hw3
  clear b3 hE3 hw3
  go_loopw [5, 6] (fun x y wr => ∃ j : Nat, j ≤ n ∧ y = .int .i64 j ∧ Hid (ER wr w2.heap.size x (e :: (es.take j).filter fun y => !(y.t == e.t || y.i == e.i))) ∧ Hid (Below w2.heap.size w2 wr)) (fun _ y _ => n - (intOf y).toNat)
  case atStart => exact ⟨0, Nat.zero_le _, rfl, HE3, HB3⟩
  case round =>
    obtain ⟨j, hj, rfl, hE, hB⟩ := hrel
    obtain ⟨x0, x1, x2, x3⟩ := (HR0.out.below hB.out HR0.out.lt).two
    obtain ⟨y0, y1, y2, y3⟩ := (HR1.out.below hB.out HR1.out.lt).three
    by_cases hlt : j < n
    · have hz : (j : Int) < (n : Int) := by omega
      have hLr := HL.out.below (fun g hg => Nat.lt_of_lt_of_le (HF.out g hg) HB2.out.size) hB.out
      obtain ⟨ga, oa, rfl, hga, hes⟩ := hLr.at_ (by omega)
      have hjk : j < es.length := by rw [HLN.out]; exact hlt
      obtain ⟨s0, s1, s2⟩ := hes.en j hjk
      have hga' : ga < wr.heap.size := Nat.lt_of_lt_of_le (Nat.lt_of_lt_of_le (HF.out ga hga) HB2.out.size) hB.out.size
      have htk : es.take (j + 1) = es.take j ++ [es[j]'hjk] := List.take_succ_eq_append_getElem hjk
      obtain ⟨f, hf⟩ : ∃ f, es[j]'hjk = f := ⟨_, rfl⟩
      rw [hf] at s0 s1 s2 htk
      have HTK := Lib.hid htk
      clear hLr hes hf htk hjk
      cases hft : (f.t == e.t) with
      | true =>
        have hfe : f.t = e.t := by simpa using hft
        rw [hfe] at s0
        have HFT := Lib.hid hft
        clear hft hfe
        go_wp2_with fail
        go_upto_region 5 with fail
        go_quiet (fail)
        go_wp2_with fail
        exact ⟨⟨j + 1, by omega, by go_num, Lib.hid (by rw [HTK.out, List.filter_append]; simp only [List.filter_cons, HFT.out, Bool.true_or, Bool.not_true, List.filter_nil]; simpa using hE.out.drewN _), Lib.hid (below_drewN hB.out _)⟩, by simp [intOf]; omega⟩
      | false =>
        have hfe : ¬ f.t = e.t := by simpa using hft
        cases hfi : (f.i == e.i) with
        | true =>
          have hie : f.i = e.i := by simpa using hfi
          rw [hie] at s1
          have HFT := Lib.hid hfi
          clear hfi hie
          go_wp2_with fail
          go_upto_region 5 with fail
          go_quiet (fail)
          go_wp2_with fail
          exact ⟨⟨j + 1, by omega, by go_num, Lib.hid (by rw [HTK.out, List.filter_append]; simp only [List.filter_cons, HFT.out, Bool.or_true, Bool.not_true, List.filter_nil]; simpa using hE.out.drewN _), Lib.hid (below_drewN hB.out _)⟩, by simp [intOf]; omega⟩
        | false =>
          have hie : ¬ f.i = e.i := by simpa using hfi
          have HKP := Lib.hid (show (!(f.t == e.t || f.i == e.i)) = true by rw [hft, hfi]; rfl)
          go_wp2_with fail
          go_upto_region 5 with fail
          go_quiet (fail)
          have b4 := below_new (below_drewN hB.out nq) (.cells #[.string ⟨f.t.toArray⟩, .string ⟨f.i.toArray⟩, .slice f.A f.n f.c] 36)
          have hE4 := (hE.out.drewN nq).below (below_new (Below.refl _ _) (.cells #[.string ⟨f.t.toArray⟩, .string ⟨f.i.toArray⟩, .slice f.A f.n f.c] 36))
          have hlen : (e :: (es.take j).filter fun y => !(y.t == e.t || y.i == e.i)).length ≤ j + 1 := by
            rw [List.length_cons]
            have : ((es.take j).filter fun y => !(y.t == e.t || y.i == e.i)).length ≤ (es.take j).length := List.length_filter_le _ _
            rw [List.length_take] at this
            omega
          obtain ⟨v', w', hrun, hel, hgr⟩ := hE4.run_snoc f (Row.new (wr.drewN nq) 36 #[.string ⟨f.t.toArray⟩, .string ⟨f.i.toArray⟩, .slice f.A f.n f.c]) b4.size (by omega) 26
          have HE' := Lib.hid (show ER w' w2.heap.size v' (e :: (es.take (j + 1)).filter fun y => !(y.t == e.t || y.i == e.i)) by
            rw [HTK.out, List.filter_append]
            simp only [List.filter_cons, HKP.out, if_true, List.filter_nil]
            exact hel)
          have HB' := Lib.hid (b4.grown hgr b4.size (fun q hq => (World.ownsRow.lt hE4 q hq).1))
          have HRUN := Lib.hid hrun
          clear hel hgr hE4 hrun b4 hlen hft hfi
          go_wp2_with (at_builtin; refine Lib.wpList_append_run _ rfl _ _ _ _ rfl _ _ rfl rfl _ _ HRUN.out ?_)
          exact ⟨⟨j + 1, by omega, by go_num, HE', HB'⟩, by simp [intOf]; omega⟩
    · obtain rfl : j = n := by omega
      have hz : ¬ ((j : Int) < (j : Int)) := by omega
      have hAll : es.take j = es := List.take_of_length_le (by rw [HLN.out]; exact Nat.le_refl _)
      obtain ⟨Lf, hLf⟩ : ∃ Lf, (e :: es.filter fun y => !(y.t == e.t || y.i == e.i)) = Lf := ⟨_, rfl⟩
      have hE' := hE.out
      rw [hAll, hLf] at hE'
      have hl0 : 0 < Lf.length := by rw [← hLf]; simp
      have hl1 : Lf.length ≤ j + 1 := by
        rw [← hLf, List.length_cons]
        have : (es.filter fun y => !(y.t == e.t || y.i == e.i)).length ≤ es.length := List.length_filter_le _ _
        have := HLN.out
        omega
      obtain ⟨A', c', rfl, hcc, hccm, _⟩ := hE'.form
      unfold maxLen at hccm
      obtain ⟨l, hl⟩ : ∃ l, Lf.length = l := ⟨_, rfl⟩
      rw [hl] at hE' hl0 hl1 hcc
      have HE := Lib.hid hE'
      have HLF := Lib.hid hLf
      have HLL := Lib.hid hl
      rw [hl]
      clear hE' hLf hl hE hAll
      obtain ⟨qm, hqm1, hqm2, hqm3⟩ : ∃ qm : Nat, qm ≤ m ∧ qm ≤ l ∧ (qm = m ∨ qm = l) := ⟨min m l, by omega, by omega, by omega⟩
      have HQ3 := Lib.hid hqm3
      clear hqm3
      go_wp2_with fail
      go_loopw [5] (fun x wr2 => ∃ q : Nat, x = .slice A' q c' ∧ q ≤ l ∧ qm ≤ q ∧ wr2 = wr) (fun x _ => match x with | .slice _ q _ => q | _ => 0)
      case atStart => exact ⟨l, rfl, Nat.le_refl _, by omega, rfl⟩
      case round =>
        obtain ⟨q, rfl, hql, hqm, rfl⟩ := hrel
        by_cases hq0 : q = 0
        · subst hq0
          have hf : ¬ ((0 : Int) < ((0 : Nat) : Int)) := by omega
          have hqq : Lf.take 0 = Lf.take m := by
            have h1 := HLL.out
            have h2 := HN1.out
            have h3 := HN2.out
            have h4 := HQ3.out
            by_cases hml : m ≤ l
            · rw [show 0 = m by omega]
            · rw [List.take_of_length_le (by omega), List.take_of_length_le (by omega)]
          have hEq := HE.out.cut 0 (by rw [HLL.out]; exact hql) (by rw [HLL.out]; exact hl0)
          rw [hqq] at hEq
          have hR0 := HR0.out.below hB.out HR0.out.lt
          have hR2 := HR2.out.below hB.out HR2.out.lt
          have f0 := hR0.frozen 1
          have hR0' := hR0.set_last (.slice A' 0 c')
          have hR2' := hR2.far (p := ⟨w.heap.size, 1, none⟩) (by simp; omega) (.slice A' 0 c')
          obtain ⟨z0, z1, z2, z3⟩ := hR0'.two
          obtain ⟨d0, d1, d2, d3⟩ := hR2'.two
          have g0 := hR2'.frozen 0
          have g1 := hR2'.frozen 1
          obtain ⟨k0, k1, _, _⟩ := (hR2'.put2 (.int .i64 N0) (.slice A' 0 c')).two
          have hsl : w.heap.size + 1 + 1 < w2.heap.size := by have := HS2.out; omega
          have HEf := Lib.hid (((hEq.far (b := w.heap.size) (i := 1) (by omega) (.slice A' 0 c')).far (b := w.heap.size + 1 + 1) (i := 0) hsl (.int .i64 N0)).far (b := w.heap.size + 1 + 1) (i := 1) hsl (.slice A' 0 c'))
          have HBf := Lib.hid ((((below_then HB2.out hB.out).setCell (p := ⟨w.heap.size, 1, none⟩) (by simp) (.slice A' 0 c')).setCell (p := ⟨w.heap.size + 1 + 1, 0, none⟩) (by simp; omega) (.int .i64 N0)).setCell (p := ⟨w.heap.size + 1 + 1, 1, none⟩) (by simp; omega) (.slice A' 0 c'))
          clear hR0 hR2 hR0' hR2' hqq hEq
          go_wp2_with fail
          refine bodyPost_ret (by simp [results, Try.results10, go_sem, k0, k1]; try rfl) rfl ?_
          refine ⟨HBf.out, .slice A' 0 c', rfl, ?_⟩
          have hfin : ER _ w.heap.size _ _ := World.ownsRow.mono HEf.out (by omega)
          rw [← HLF.out] at hfin
          simpa only [Bool.not_or] using hfin
        · by_cases hqN : (N0 : Int) < (q : Int)
          · obtain ⟨p, rfl⟩ : ∃ p, q = p + 1 := ⟨q - 1, by omega⟩
            have hz1 : (0 : Int) < ((p + 1 : Nat) : Int) := by omega
            have hwr : IntKind.i64.wrap (((p + 1 : Nat) : Int) - 1) = (p : Int) := by rw [IntKind.wrap_i64]; omega
            have hwr2 : IntKind.i64.wrap ((p : Int) + 1 - 1) = (p : Int) := by rw [IntKind.wrap_i64]; omega
            have hz2 : p ≤ c' := by omega
            have hz3 : (p : Int) ≤ (c' : Int) := by omega
            have hz4 : N0 < (p : Int) + 1 := by omega
            have hz5 : (0 : Int) < (p : Int) + 1 := by omega
            go_wp2_with fail
            exact ⟨⟨p, rfl, by omega, by (have h2 := HN1.out; have h3 := HN2.out; have h4 := HQ3.out; clear hwr hwr2; by_cases h0 : N0 < 0; (have := h3 h0; omega); (have := h2 (by omega); omega)), trivial⟩, Nat.lt_succ_self _⟩
          · have hz1 : (0 : Int) < (q : Int) := by omega
            have hqq : Lf.take q = Lf.take m := by
              have h1 := HLL.out
              have h2 := HN1.out
              have h3 := HN2.out
              have h4 := HQ3.out
              by_cases hml : m ≤ l
              · rw [show q = m by omega]
              · rw [List.take_of_length_le (by omega), List.take_of_length_le (by omega)]
            have hEq := HE.out.cut q (by rw [HLL.out]; exact hql) (by rw [HLL.out]; exact hl0)
            rw [hqq] at hEq
            have hR0 := HR0.out.below hB.out HR0.out.lt
            have hR2 := HR2.out.below hB.out HR2.out.lt
            have f0 := hR0.frozen 1
            have hR0' := hR0.set_last (.slice A' q c')
            have hR2' := hR2.far (p := ⟨w.heap.size, 1, none⟩) (by simp; omega) (.slice A' q c')
            obtain ⟨z0, z1, z2, z3⟩ := hR0'.two
            obtain ⟨d0, d1, d2, d3⟩ := hR2'.two
            have g0 := hR2'.frozen 0
            have g1 := hR2'.frozen 1
            obtain ⟨k0, k1, _, _⟩ := (hR2'.put2 (.int .i64 N0) (.slice A' q c')).two
            have hsl : w.heap.size + 1 + 1 < w2.heap.size := by have := HS2.out; omega
            have HEf := Lib.hid (((hEq.far (b := w.heap.size) (i := 1) (by omega) (.slice A' q c')).far (b := w.heap.size + 1 + 1) (i := 0) hsl (.int .i64 N0)).far (b := w.heap.size + 1 + 1) (i := 1) hsl (.slice A' q c'))
            have HBf := Lib.hid ((((below_then HB2.out hB.out).setCell (p := ⟨w.heap.size, 1, none⟩) (by simp) (.slice A' q c')).setCell (p := ⟨w.heap.size + 1 + 1, 0, none⟩) (by simp; omega) (.int .i64 N0)).setCell (p := ⟨w.heap.size + 1 + 1, 1, none⟩) (by simp; omega) (.slice A' q c'))
            clear hR0 hR2 hR0' hR2' hqq hEq
            go_wp2_with fail
            refine bodyPost_ret (by simp [results, Try.results10, go_sem, k0, k1]; try rfl) rfl ?_
            refine ⟨HBf.out, .slice A' q c', rfl, ?_⟩
            have hfin : ER _ w.heap.size _ _ := World.ownsRow.mono HEf.out (by omega)
            rw [← HLF.out] at hfin
            simpa only [Bool.not_or] using hfin
end Go.Proofs.Ytfcopniihcaefaa
