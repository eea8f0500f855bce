/- prepared: Id, and the lemmas that Text, Drop and All share with it. Of at most 2^40 entries, 2^40 keys each. -/
import Derived.Test.YtfcopniihcaefaaPG
namespace Go.Proofs.Ytfcopniihcaefaa
open Go.RowKit
/-- What Text and Id tell. -/
def Got (w' : World) (base : Nat) (o : Option En) (r : Ending) : Prop :=
  match o with
  | none => r = .returned (.tuple #[.agg #[.string ⟨[].toArray⟩, .string ⟨[].toArray⟩, .slice none 0 0], .bool false])
  | some e => ∃ A' c', r = .returned (.tuple #[.agg #[.string ⟨e.t.toArray⟩, .string ⟨e.i.toArray⟩, .slice A' e.n c'], .bool true]) ∧ KO w' base ⟨e.t, e.i, A', e.n, c', e.ks⟩
theorem IdxIs.find {f : En → Bool} {es : List En} {r : Int} (h : IdxIs f es r) : (r = -1 ∧ es.find? f = none) ∨ ∃ (k : Nat) (h : k < es.length), r = k ∧ es.find? f = some es[k] ∧ es.findIdx f = k ∧ f es[k] = true := by
  rcases h with ⟨k, rfl, hk, ht, hno⟩ | ⟨rfl, hno⟩
  · refine .inr ⟨k, hk, rfl, ?_, ?_, ht⟩
    · rw [List.find?_eq_some_iff_getElem]
      exact ⟨ht, k, hk, rfl, fun j hj => by simp [hno j hj]⟩
    · rw [List.findIdx_eq hk]
      exact ⟨ht, fun j hj => hno j hj⟩
  · exact .inl ⟨rfl, List.find?_eq_none.2 (fun x hx => by simp [hno x hx])⟩
theorem Row.three {w : World} {p : Nat} {ty : TypeId} {a b c : Value} (h : Row w p ty #[a, b, c]) : w.cell? ⟨p, 0, none⟩ = some a ∧ w.cell? ⟨p, 1, none⟩ = some b ∧ w.cell? ⟨p, 2, none⟩ = some c ∧ p < w.heap.size := by
  have h0 := h.cell 0
  have h1 := h.cell 1
  have h2 := h.cell 2
  simp only [List.getElem?_toArray, List.getElem?_cons_zero, List.getElem?_cons_succ] at h0 h1 h2
  exact ⟨h0, h1, h2, h.lt⟩
theorem Row.put3 {w : World} {p : Nat} {ty : TypeId} {a b c : Value} (h : Row w p ty #[a, b, c]) (x y z : Value) : Row (((w.setCell ⟨p, 0, none⟩ x).setCell ⟨p, 1, none⟩ y).setCell ⟨p, 2, none⟩ z) p ty #[x, y, z] := by
  have := ((h.set_ 0 x).set_ 1 y).set_ 2 z
  simpa using this
theorem Row.lt_new {w : World} {o : Obj} : (w.alloc o).heap.size = w.heap.size + 1 := by simp
set_option maxHeartbeats 1000000 in
theorem id_any {base p m : Nat} {v : Value} {es : List En} (t : List UInt8) (w : World) (hc : CA w base p m v es) (hlen : es.length ≤ 1099511627776) (hnk : ∀ e ∈ es, e.n ≤ 1099511627776) :
    Calls Try.prog 15 #[.pointer (some ⟨p, 0, none⟩), .string ⟨t.toArray⟩] w fun r w' => Below w.heap.size w w' ∧ Got w' w.heap.size (es.find? fun e => e.i == t) r := by
  have b1 := below_new (Below.refl w.heap.size w) (.cells #[.string ⟨t.toArray⟩] 9)
  have b2 := below_new b1 (.cells #[.string ⟨[].toArray⟩, .string ⟨[].toArray⟩, .slice none 0 0] 31)
  obtain ⟨w2, hw2⟩ : ∃ w2, w2 = (w.alloc (.cells #[.string ⟨t.toArray⟩] 9)).alloc (.cells #[.string ⟨[].toArray⟩, .string ⟨[].toArray⟩, .slice none 0 0] 31) := ⟨_, rfl⟩
  have hq := (Row.new w 9 #[.string ⟨t.toArray⟩]).alloc (.cells #[.string ⟨[].toArray⟩, .string ⟨[].toArray⟩, .slice none 0 0] 31)
  have hr := Row.new (w.alloc (.cells #[.string ⟨t.toArray⟩] 9)) 31 #[.string ⟨[].toArray⟩, .string ⟨[].toArray⟩, .slice none 0 0]
  rw [Row.lt_new] at hr
  rw [← hw2] at b2 hq hr
  have hq0 := hq.cell 0
  simp only [List.getElem?_toArray, List.getElem?_cons_zero] at hq0
  have hc2 := hc.below b2
  have HFD := Lib.hid (find_id w.heap.size t w2 hc2.row hc2.el hq0 hq.lt hlen)
  have HR := Lib.hid hr
  have HC2 := Lib.hid hc2
  have HB2 := Lib.hid b2
  have HNK := Lib.hid hnk
  clear hc b1 b2 hq hr hq0 hc2 hnk
  go_enter Try.func15, Try.ntmps15
  subst hw2
  go_wp2_with fail
  refine HFD.out.mono ?_
  rintro _ w3 ⟨⟨r, rfl, hr⟩, hb3⟩
  have hr3 := HR.out.below hb3 HR.out.lt
  obtain ⟨d0, d1, d2, d3⟩ := hr3.three
  have g0 := hr3.frozen 0
  have g1 := hr3.frozen 1
  have g2 := hr3.frozen 2
  rcases hr.find with ⟨rfl, hn⟩ | ⟨k, hk, rfl, hn, _, _⟩
  · have HN := Lib.hid hn
    clear hn
    obtain ⟨k0, k1, k2, _⟩ := (hr3.put3 (.string ⟨[].toArray⟩) (.string ⟨[].toArray⟩) (.slice none 0 0)).three
    have HB := Lib.hid (((below_then HB2.out hb3).setCell (p := ⟨w.heap.size + 1, 0, none⟩) (by simp) (.string ⟨[].toArray⟩)).setCell (p := ⟨w.heap.size + 1, 1, none⟩) (by simp) (.string ⟨[].toArray⟩) |>.setCell (p := ⟨w.heap.size + 1, 2, none⟩) (by simp) (.slice none 0 0))
    clear hr3 hr hb3
    go_wp2_with fail
    refine bodyPost_ret (by simp [results, Try.results15, go_sem, k0, k1, k2]; try rfl) rfl ?_
    rw [HN.out]
    exact ⟨HB.out, rfl⟩
  · have hc3 := HC2.out.below hb3
    obtain ⟨c0, c1, c2, c3⟩ := hc3.row.two
    obtain ⟨gb, cap, rfl, hEB⟩ := hc3.el.some_ es.length rfl (by omega)
    obtain ⟨e, he⟩ : ∃ e, es[k] = e := ⟨_, rfl⟩
    have hem : e ∈ es := by rw [← he]; exact List.getElem_mem _
    obtain ⟨s0, s1, s2⟩ := hEB.en k hk
    rw [he] at s0 s1 s2 hn
    have hus := (hc3.ks e hem).us
    have hz1 : (k : Int) < (es.length : Int) := by omega
    have hz2 : ¬ ((k : Int) < 0) := by omega
    have hgl := hEB.lt
    have HN := Lib.hid hn
    clear hn
    have HR3 := Lib.hid hr3
    have HB3 := Lib.hid hb3
    have HUS := Lib.hid hus
    have HNE := Lib.hid (HNK.out e hem)
    clear hr3 hr hb3 hus hEB hc3 he hem
    go_wp2_with fail
    refine (own_is e.t e.i e.A e.n e.c e.ks _ HUS.out HNE.out).mono ?_
    rintro _ w4 ⟨A', c', rfl, hko, hb4⟩
    have hr4 := HR3.out.below hb4 HR3.out.lt
    obtain ⟨d0, d1, d2, d3⟩ := hr4.three
    have g0 := hr4.frozen 0
    have g1 := hr4.frozen 1
    have g2 := hr4.frozen 2
    obtain ⟨k0, k1, k2, _⟩ := (hr4.put3 (.string ⟨e.t.toArray⟩) (.string ⟨e.i.toArray⟩) (.slice A' e.n c')).three
    have HB := Lib.hid (((below_then (below_then HB2.out HB3.out) hb4).setCell (p := ⟨w.heap.size + 1, 0, none⟩) (by simp) (.string ⟨e.t.toArray⟩)).setCell (p := ⟨w.heap.size + 1, 1, none⟩) (by simp) (.string ⟨e.i.toArray⟩) |>.setCell (p := ⟨w.heap.size + 1, 2, none⟩) (by simp) (.slice A' e.n c'))
    have hs3 : w.heap.size + 1 < w3.heap.size := HR3.out.lt
    have HK := Lib.hid ((((hko.set (p := w.heap.size + 1) (i := 0) hs3 (.string ⟨e.t.toArray⟩)).set (p := w.heap.size + 1) (i := 1) hs3 (.string ⟨e.i.toArray⟩)).set (p := w.heap.size + 1) (i := 2) hs3 (.slice A' e.n c')).mono (show w.heap.size ≤ w3.heap.size by omega))
    clear hr4 hb4 hko
    go_wp2_with fail
    refine bodyPost_ret (by simp [results, Try.results15, go_sem, k0, k1, k2]; try rfl) rfl ?_
    rw [HN.out]
    exact ⟨HB.out, A', c', rfl, HK.out⟩
end Go.Proofs.Ytfcopniihcaefaa
