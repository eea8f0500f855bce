/- prepared: slices.DeleteFunc by Put's closure. Of at most 2^40 entries. -/
import Derived.Test.YtfcopniihcaefaaPD
namespace Go.Proofs.Ytfcopniihcaefaa
open Go.RowKit
theorem idx_put_v {base : Nat} {v : Value} {es : List En} (q : Nat) (t i : List UInt8) (w : World) (hes : EL w base v es) (hq : w.cell? ⟨q, 0, none⟩ = some (.string ⟨t.toArray⟩)) (hq1 : w.cell? ⟨q, 1, none⟩ = some (.string ⟨i.toArray⟩)) (hl : q < w.heap.size) (hnm : es.length ≤ 1099511627776) :
    Calls Try.prog 28 #[v, .func (.func 21) #[] #[.pointer (some ⟨q, 0, none⟩)]] w fun e w' => (∃ r, e = .returned (.int .i64 r) ∧ IdxIs (fun e => e.t == t || e.i == i) es r) ∧ Below w.heap.size w w' := by
  rcases hes.cases with ⟨rfl, rfl⟩ | ⟨g, cap, rfl, hb⟩
  · refine (idx_put_nil q none 0 w).mono ?_
    rintro _ _ ⟨rfl, rfl⟩
    exact ⟨⟨_, rfl, .inr ⟨rfl, fun e he => absurd he (by simp)⟩⟩, Below.refl _ _⟩
  · exact idx_put q t i w hb.ents hb.lt hq hq1 hl rfl hnm
set_option maxHeartbeats 1000000 in
theorem delf {base : Nat} {v : Value} {es : List En} (q : Nat) (t i : List UInt8) (w : World) (hes : EL w base v es) (hq : w.cell? ⟨q, 0, none⟩ = some (.string ⟨t.toArray⟩)) (hq1 : w.cell? ⟨q, 1, none⟩ = some (.string ⟨i.toArray⟩)) (hl : q < w.heap.size) (hqv : some q ≠ v.ownBlock) (hnm : es.length ≤ 1099511627776) :
    Calls Try.prog 20 #[v, .func (.func 21) #[] #[.pointer (some ⟨q, 0, none⟩)]] w fun e w' => ∃ v', e = .returned v' ∧ EL w' base v' (es.filter fun e => !(e.t == t || e.i == i)) ∧ v'.ownBlock = v.ownBlock ∧ w.grownBy w' v.ownBlock := by
  have hidx := Lib.hid (idx_put_v q t i w hes hq hq1 hl hnm)
  have HQ := Lib.hid hq
  have HQ1 := Lib.hid hq1
  have HES := Lib.hid hes
  clear hes hq hq1
  go_enter Try.func20, Try.ntmps20
  go_wp2_with fail
  refine hidx.out.mono ?_
  rintro _ w1 ⟨⟨r, rfl, hr⟩, hb1⟩
  rcases hr with ⟨k, rfl, hk, ht, hno⟩ | ⟨rfl, hno⟩
  · rcases HES.out.cases with ⟨rfl, rfl⟩ | ⟨g, cap, rfl, hEB⟩
    · exact absurd hk (by simp)
    · have hne1 : ((k : Int) == -1) = false := beq_eq_false_iff_ne.2 (by omega)
      have HKI := Lib.hid (KI.start (f := fun e => e.t == t || e.i == i) hk ht hno)
      have HEB := Lib.hid (hEB.below hb1 hEB.lt)
      have HB1 := Lib.hid hb1
      have hqg : q ≠ g := fun e => hqv (by rw [e]; rfl)
      clear hEB ht hno hqv
      go_wp2_with fail
      go_loopw [5, 6, 7] (fun x y _ wr => ∃ (a b : Nat) (dk : List En), x = .int .i64 a ∧ y = .int .i64 b ∧ Hid (EB wr base g es.length cap dk) ∧ Hid (KI (fun e => e.t == t || e.i == i) es dk a b) ∧ Hid (w.grownBy wr (some g)) ∧ b ≤ es.length) (fun _ y _ _ => es.length - (intOf y).toNat)
      case atStart => exact ⟨k, k + 1, es, rfl, by go_num, HEB, HKI, Lib.hid (below_grown HB1.out _), hk⟩
      case round =>
        obtain ⟨a, b, dk, rfl, rfl, hEB, hKI, hG, hbn⟩ := hrel
        have hab := hKI.out.lt
        have hdl := hKI.out.len
        by_cases hlt : b < es.length
        · obtain ⟨c0, c1, c2⟩ := hEB.out.en b (by omega)
          rw [hKI.out.at_ hlt] at c0 c1 c2
          obtain ⟨e, he⟩ : ∃ e, es[b] = e := ⟨_, rfl⟩
          rw [he] at c0 c1 c2
          have hqr := hG.out.cell HQ.out (by simpa using hqg)
          have hq1r := hG.out.cell HQ1.out (by simpa using hqg)
          have hlr : q < wr.heap.size := Nat.lt_of_lt_of_le hl hG.out.size
          have hgr := hEB.out.lt
          have hqa := Lib.cell?_alloc_some (.cells #[.string ⟨e.t.toArray⟩, .string ⟨e.i.toArray⟩, .slice e.A e.n e.c] 31) hqr
          have hq1a := Lib.cell?_alloc_some (.cells #[.string ⟨e.t.toArray⟩, .string ⟨e.i.toArray⟩, .slice e.A e.n e.c] 31) hq1r
          have hcall := put_c e q t i (wr.alloc (.cells #[.string ⟨e.t.toArray⟩, .string ⟨e.i.toArray⟩, .slice e.A e.n e.c] 31)) hqa hq1a (by simp; omega)
          have hEBa := (hEB.out.below (below_new (Below.refl wr.heap.size wr) (.cells #[.string ⟨e.t.toArray⟩, .string ⟨e.i.toArray⟩, .slice e.A e.n e.c] 31)) hgr)
          have hRa := Row.new wr 31 #[.string ⟨e.t.toArray⟩, .string ⟨e.i.toArray⟩, .slice e.A e.n e.c]
          have hGa := grown_then hG.out (World.grownBy_alloc wr (.cells #[.string ⟨e.t.toArray⟩, .string ⟨e.i.toArray⟩, .slice e.A e.n e.c] 31) (some g))
          unfold En.v at hcall
          have HEBa := Lib.hid hEBa
          have HRa := Lib.hid hRa
          have HGa := Lib.hid hGa
          clear hqr hq1r hqa hq1a hEBa hRa hGa
          cases hf : (e.t == t || e.i == i) with
          | true =>
            rw [hf] at hcall
            have HC := Lib.hid hcall
            have HF := Lib.hid hf
            clear hcall hf
            go_wp2_with fail
            refine HC.out.mono ?_
            rintro _ w2 ⟨rfl, hb2⟩
            go_wp2_with fail
            exact ⟨⟨a, b + 1, dk, rfl, by go_num, Lib.hid (HEBa.out.below hb2 HEBa.out.lt), Lib.hid (hKI.out.skip hlt (by simp only [he]; exact HF.out)), Lib.hid (grown_then HGa.out (below_grown hb2 _)), hlt⟩, by simp [intOf]; omega⟩
          | false =>
            rw [hf] at hcall
            have HC := Lib.hid hcall
            have HF := Lib.hid hf
            clear hcall hf
            go_wp2_with fail
            refine HC.out.mono ?_
            rintro _ w2 ⟨rfl, hb2⟩
            have hEB2 := HEBa.out.below hb2 HEBa.out.lt
            have hR2 := HRa.out.below hb2 (by simp)
            have d0 := hR2.cell 0
            have d1 := hR2.cell 1
            have d2 := hR2.cell 2
            simp only [List.getElem?_toArray, List.getElem?_cons_zero, List.getElem?_cons_succ] at d0 d1 d2
            obtain ⟨o0, o1, o2⟩ := hEB2.en a (by omega)
            generalize (dk[a]'(by omega)) = old at o0 o1 o2
            have f0 := hEB2.fro (a * 3)
            have f1 := hEB2.fro (a * 3 + 1)
            have f2 := hEB2.fro (a * 3 + 2)
            have hlay := Lib.hid (hEB2.lay a (a * 3) [e] rfl (by simp; omega))
            have HG2 := Lib.hid (grown_then HGa.out (below_grown hb2 (some g)))
            clear hEB2 hR2
            go_wp2_with fail
            refine ⟨⟨a + 1, b + 1, _, by go_num, by go_num, Lib.hid hlay.out.1, Lib.hid (by have := hKI.out.keep hlt (by simp only [he]; exact HF.out); rw [he] at this; exact this), Lib.hid (grown_then HG2.out hlay.out.2), hlt⟩, by simp [intOf]; omega⟩
        · obtain rfl : b = es.length := by omega
          have hEBr := hEB.out
          have hal : (List.replicate (es.length - a) en0).length = es.length - a := List.length_replicate
          have hcl : ∀ ty, (Builtin.clear_ #[48] ty #[.slice (some ⟨g, a * 3, none⟩) (es.length - a) (cap - a)]).run Try.prog wr = .ok (.tuple #[]) (wr.setCells g (a * 3) ((List.replicate (es.length - a) en0).flatMap enCells)) :=
            fun ty => run_clear_en wr ty g (a * 3) _ _ (fun j hj => hEBr.is _ (by omega)) (fun j hj => hEBr.fro _)
          obtain ⟨hl1, hl2⟩ := hEBr.lay a (a * 3) (List.replicate (es.length - a) en0) rfl (by omega)
          have hec : es.length ≤ cap := by obtain ⟨_, _, _, h1, _⟩ := hEBr.obj; exact h1
          have HL1 := Lib.hid (hl1.cut a (by omega))
          have HL2 := Lib.hid (grown_then hG.out hl2)
          clear hEBr hl1 hl2
          go_wp2_with fail
          go_ret
          refine ⟨_, rfl, ?_, rfl, HL2.out⟩
          have hx := HL1.out
          have hti : (dk.take a).length = a := by rw [List.length_take]; omega
          rw [List.append_assoc, List.take_append_of_le_length (by omega), List.take_of_length_le (by omega), hKI.out.take, List.take_of_length_le (Nat.le_refl _)] at hx
          exact hx.el
  · have hne1 : ((-1 : Int) == -1) = true := rfl
    go_wp2_with fail
    go_ret
    have hfe : (es.filter fun e => !(e.t == t || e.i == i)) = es := List.filter_eq_self.2 (fun e he => by simp only [hno e he, Bool.not_false])
    rw [hfe]
    exact ⟨_, rfl, own_below HES.out hb1, rfl, below_grown hb1 _⟩
end Go.Proofs.Ytfcopniihcaefaa
