/- SplitterJoins: the walk. No condition but that the numbers are of their kinds. -/
import Derived.Test.YtiehhoonfneccaaSX
import Derived.Test.YtiehhoonfneccaaSY
namespace Go.Proofs.Ytiehhoonfneccaa
open Go.RowKit
theorem Spl.fresh_own2 {w w' : World} {p base n : Nat} {ver : Int} {v : Value} {xs : List Value} (h : Spl w p ver [] 0 none 0) (ho : w.ownsRow base 5 1 v n xs) (hg : w.grownBy w' v.ownBlock) : Spl w' p ver [] 0 none 0 :=
  ⟨(grown_typed ho hg h.row (by decide)).trans h.row, SW.nil _, fun a ha => by cases ha⟩
/-- One frame of several. -/
theorem FM.one {w : World} {B n c i : Nat} {A : Option Addr} {fs : List Fr} (h : FM w B A n c fs) (hi : i < n) : ∃ g o, A = some ⟨g, o, none⟩ ∧ g < B ∧ FM w B (some ⟨g, o + i * 6, none⟩) 1 (c - i) [fs[i]'(by rw [h.len]; exact hi)] := by
  obtain ⟨g, o, e, hg, hp⟩ := h.at_ (by omega)
  have hc := h.cap
  have hm := h.max
  refine ⟨g, o, e, hg, rfl, by omega, by omega, fun _ => ⟨g, o + i * 6, rfl, hg, fun j hj => ?_⟩⟩
  obtain rfl : j = 0 := by simpa using hj
  have := hp i (by rw [h.len]; exact hi)
  simpa using this
set_option maxRecDepth 20000 in
theorem joins_out {A A2 : Option Addr} {n c n2 c2 : Nat} {fs : List Fr} {l2 : List UInt8} (w : World) (hfm : FM w w.heap.size A n c fs) (hl2 : SW w A2 n2 c2 l2) (hn : 10 < n ∨ 100 < n2) :
    Calls Try.prog 10 #[.slice A n c, .slice A2 n2 c2] w fun e w' => e = .returned (.bool true) ∧ Below w.heap.size w w' := by
  have hm := Nat.le_trans hfm.cap hfm.max
  have hm2 := Nat.le_trans (BS.cap hl2) (BS.max hl2)
  unfold maxLen at hm hm2
  by_cases h5 : 10 < n
  · go_enter Try.func10, Try.ntmps10
    go_wp2_with fail
    refine (awake6 _).mono ?_
    rintro e w1 ⟨rfl, hb1⟩
    go_wp2_with fail
    go_ret
    exact ⟨rfl, hb1⟩
  · have h8 : 100 < n2 := by omega
    go_enter Try.func10, Try.ntmps10
    go_wp2_with fail
    refine (awake6 _).mono ?_
    rintro e w1 ⟨rfl, hb1⟩
    go_wp2_with fail
    go_ret
    exact ⟨rfl, hb1⟩
set_option maxRecDepth 20000 in
set_option maxHeartbeats 1000000 in
theorem joins_in {A A2 : Option Addr} {n c n2 c2 : Nat} {fs : List Fr} {l2 : List UInt8} (w : World) (hfm : FM w w.heap.size A n c fs) (hl2 : SW w A2 n2 c2 l2) (hn : n ≤ 10) (hn2 : n2 ≤ 100) (hr : ∀ f ∈ fs, FrRng f) :
    Calls Try.prog 10 #[.slice A n c, .slice A2 n2 c2] w fun e w' => e = .returned (.bool true) ∧ Below w.heap.size w w' := by
  obtain ⟨i0, hi, hz0, hz1, hz2⟩ := info_parts info_byte
  have hfl := hfm.len
  have hfc := hfm.cap
  have HR := Lib.hid hr
  clear hr
  go_enter Try.func10, Try.ntmps10
  go_wp2_with fail
  refine (awake6 _).mono ?_
  rintro e w1 ⟨rfl, hb1⟩
  go_wp2_with fail
  go_loopw [6, 7] (fun v i wr => ∃ (k N : Nat) (bs : List UInt8), k ≤ n ∧ i = .int .i64 k ∧ N ≤ 1009 * k ∧ Hid (N = bs.length) ∧ Hid (bs = (fs.take k).flatMap frB) ∧ Hid (∀ f ∈ fs.take k, FrOk 132 f) ∧ wr.ownsRow w1.heap.size 5 1 v N (bv bs) ∧ Below w1.heap.size w1 wr) (fun _ i _ => n - (intOf i).toNat)
  case atStart => exact ⟨0, 0, [], Nat.zero_le _, rfl, Nat.le_refl _, Lib.hid rfl, Lib.hid rfl, Lib.hid (fun f h => by simp at h), World.ownsRow_nil _ _ _ _, Below.refl _ _⟩
  case round =>
    obtain ⟨k, N, bs, hk, rfl, hN, hNb, hbs, hok, hown, hb⟩ := hrel
    have hsz := hb.size
    have bwr := below_then hb1 hb
    by_cases hlt : k < n
    · have hfr := hfm.then_ bwr
      obtain ⟨g, o, rfl, hg, hone⟩ := hfr.one hlt
      have hkf : k < fs.length := by omega
      have hrg := HR.out fs[k] (List.getElem_mem hkf)
      have htk : fs.take (k + 1) = fs.take k ++ [fs[k]] := List.take_succ_eq_append_getElem hkf
      obtain ⟨_, _, e0, _, hp⟩ := hfr.at_ (by omega)
      obtain ⟨c0, c1', c2', c3, c4, A1, m1, c5, hb5⟩ := hp k hkf
      injection e0 with e0
      injection e0 with e1 e2 _
      subst e1
      subst e2
      clear hp
      obtain ⟨f, hf⟩ : ∃ f, fs[k] = f := ⟨_, rfl⟩
      rw [hf] at hone hrg htk c0 c1' c2' c3 c4 c5 hb5
      obtain ⟨V, F, S, O, L, bd⟩ := f
      obtain ⟨⟨rV0, rV1⟩, ⟨rF0, rF1⟩, ⟨rS0, rS1⟩, ⟨rO0, rO1⟩, rL0, rL1⟩ := hrg
      simp only at rV0 rV1 rF0 rF1 rS0 rS1 rO0 rO1 rL0 rL1 c0 c1' c2' c3 c4 c5 hb5
      obtain ⟨nb, hnb⟩ : ∃ nb, bd.length = nb := ⟨_, rfl⟩
      rw [hnb] at c5 hb5
      have hmb := Nat.le_trans hb5.cap hb5.max
      unfold maxLen at hmb
      have HNB := Lib.hid hnb
      clear hnb hf hfr
      by_cases h3 : 1000 < nb
      · clear rL1
        go_wp2_with fail
        go_ret
        exact ⟨rfl, bwr⟩
      · have uck : ¬ c = k := by omega
        have ik1 : (k : Int) + 1 ≤ (c : Int) := by omega
        have HONE := Lib.hid hone
        have HTK := Lib.hid htk
        clear hone htk hmb
        by_cases hL : L = (nb : Int)
        · subst hL
          clear rL0 rL1
          by_cases hck : chk V F O nb = 0
          · go_wp2_with fail
            refine (join_ok V F S O _ (BS.more (hb5) (Nat.le_refl _)) (by omega) (by omega) (by omega) (by omega) (by omega) (by omega) (by omega) hck).mono ?_
            rintro e w2 ⟨v2, rfl, hown2, hb2⟩
            obtain ⟨A2', d2, rfl, sw2⟩ := SW.of_own hown2
            go_wp2_with fail
            refine (framesOf_any _ (HONE.out.then_ hb2) (by omega)).mono ?_
            rintro e w3 ⟨v3, rfl, hX3, hb3⟩
            obtain ⟨A3, d3, rfl, hXM3⟩ := hX3.form
            obtain ⟨g3, o3, rfl, _, hc3⟩ := hXM3.at_ (by simp)
            obtain ⟨y0, y1, y2, y3, y4, y5⟩ := hc3 0 (by simp)
            simp only [List.getElem_cons_zero, Nat.zero_mul, Nat.add_zero, List.length_singleton] at y0 y1 y2 y3 y4 y5 ⊢
            clear hc3 hXM3
            go_wp2_with fail
            refine (rjoin_ok V F S O _ HNB.out (by omega) (by omega) (by omega) (by omega) (by omega) (by omega) (by omega) (by omega) (by omega) hck).mono ?_
            rintro e w4 ⟨A4, N4, d4, rfl, sw4, hb4⟩
            have b24 := below_then hb3 hb4
            have brr := below_then hb2 b24
            have sx := str_now (sw2.then_ b24)
            have sy := str_now sw4
            have c04 : w4.cell? ⟨g, o + k * 6, none⟩ = some (.int .u8 V) := keep_cell c0 hg brr
            by_cases hV : V = 132
            · subst hV
              have hownb := own_below hown brr
              have sw24 := sw2.then_ b24
              have hobk := own_blk hown
              have HBS := Lib.hid (show bs ++ (putH 132 F S O nb ++ bd) = (fs.take (k + 1)).flatMap frB by rw [HTK.out, List.flatMap_append, ← hbs.out, List.flatMap_singleton]; rfl)
              have HNN := Lib.hid (show N + (9 + nb) = (bs ++ (putH 132 F S O nb ++ bd)).length by rw [List.length_append, List.length_append, putH_len, HNB.out, ← hNb.out])
              have HOK := Lib.hid (show ∀ f ∈ fs.take (k + 1), FrOk 132 f by
                rw [HTK.out]
                intro f hf
                rcases List.mem_append.1 hf with hf | hf
                · exact hok.out f hf
                · simp at hf
                  subst hf
                  exact ⟨rfl, by simp, by simp, rF0, by simp only; omega, rS0, by simp only; omega, rO0, by simp only; omega, by simp only; rw [HNB.out], by simp only; rw [HNB.out]; omega, by simp only; rw [HNB.out]; exact hck⟩)
              clear hown hown2
              go_wp2_with (at_builtin; refine wpList_append_bs _ rfl _ _ 27 rfl w1.heap.size 5 i0 (.int .u8 0) Try.underlying27 hi hz0 hz1 hz2 rfl _ N (bv bs) rfl hownb rfl sw24 ?_ ?_ ?_)
              · omega
              · exact Nat.le_trans hsz brr.size
              · intro v5 w5 hown5 hg5 hat5
                rw [← bv_append] at hown5
                go_wp2_with fail
                exact ⟨⟨k + 1, N + (9 + nb), _, by omega, by go_num, by omega, HNN, HBS, HOK, hown5, (below_then hb brr).grown hg5 (Nat.le_trans hsz brr.size) hobk⟩, by simp [intOf]; omega⟩
            · have hVb : (V != 132) = true := by simpa using hV
              go_wp2_with fail
              go_ret
              exact ⟨rfl, below_then bwr brr⟩
          · obtain ⟨ck, hcke⟩ : ∃ ck, chk V F O nb = ck := ⟨_, rfl⟩
            have hck0 : ¬ ck = 0 := by rw [← hcke]; exact hck
            have HCK := Lib.hid hcke
            clear hcke
            go_wp2_with fail
            refine (join_bad V F S O _ (by omega) (by omega) (by omega) hck).mono ?_
            rintro e w2 ⟨rfl, hb2⟩
            rw [HCK.out]
            go_wp2_with fail
            refine (framesOf_any _ (HONE.out.then_ hb2) (by omega)).mono ?_
            rintro e w3 ⟨v3, rfl, hX3, hb3⟩
            obtain ⟨A3, d3, rfl, hXM3⟩ := hX3.form
            obtain ⟨g3, o3, rfl, _, hc3⟩ := hXM3.at_ (by simp)
            obtain ⟨y0, y1, y2, y3, y4, y5⟩ := hc3 0 (by simp)
            simp only [List.getElem_cons_zero, Nat.zero_mul, Nat.add_zero, List.length_singleton] at y0 y1 y2 y3 y4 y5 ⊢
            clear hc3 hXM3
            go_wp2_with fail
            refine (rjoin_bad V F S O _ HNB.out (by omega) (by omega) (by omega) hck).mono ?_
            rintro e w4 ⟨rfl, hb4⟩
            rw [HCK.out]
            have s0 := str_now (BS.none_ w4 0)
            go_wp2_with fail
            go_ret
            exact ⟨rfl, below_then bwr (below_then hb2 (below_then hb3 hb4))⟩
        · go_wp2_with fail
          refine (join_body V F S O L _ (by omega) (by omega) (by omega) hL).mono ?_
          rintro e w2 ⟨rfl, hb2⟩
          go_wp2_with fail
          refine (framesOf_any _ (HONE.out.then_ hb2) (by omega)).mono ?_
          rintro e w3 ⟨v3, rfl, hX3, hb3⟩
          obtain ⟨A3, d3, rfl, hXM3⟩ := hX3.form
          obtain ⟨g3, o3, rfl, _, hc3⟩ := hXM3.at_ (by simp)
          obtain ⟨y0, y1, y2, y3, y4, y5⟩ := hc3 0 (by simp)
          simp only [List.getElem_cons_zero, Nat.zero_mul, Nat.add_zero, List.length_singleton] at y0 y1 y2 y3 y4 y5 ⊢
          clear hc3 hXM3
          go_wp2_with fail
          refine (rjoin_body V F S O L _ HNB.out (by omega) (by omega) (by omega) hL).mono ?_
          rintro e w4 ⟨rfl, hb4⟩
          have s0 := str_now (BS.none_ w4 0)
          go_wp2_with fail
          go_ret
          exact ⟨rfl, below_then bwr (below_then hb2 (below_then hb3 hb4))⟩
    · obtain rfl : k = n := by omega
      have hbs := hbs.out
      have hok := hok.out
      rw [List.take_of_length_le (by omega)] at hbs hok
      have hsp := sp_many [] fs hok
      rw [List.append_nil, ← hbs, sp_nil, List.append_nil] at hsp
      have hbl : bs.length = N := hNb.out.symm
      have HSP := Lib.hid hsp
      have hfr := hfm.then_ bwr
      obtain ⟨Ax, cx, rfl, swb⟩ := SW.of_own hown
      clear hbs hok hsp hfm
      go_wp2_with fail
      refine (new_any 132 _).mono ?_
      rintro e w2 ⟨rfl, hS2, hb2⟩
      go_wp2_with fail
      refine (add_is (N + 1) fs [] 0 hS2 (swb.then_ hb2) (by simp; omega) (by omega) (by omega) (by simp) (by rw [List.nil_append, sp_is 132 bs (by omega)]; exact HSP.out)).mono ?_
      rintro e w3 ⟨B3, d3, x3, A3, c3, rfl, hF3, hS3, hG3⟩
      rw [hfl] at hF3 ⊢
      have b23 : Below wr.heap.size wr w3 := hb2.grown hG3 hb2.size (fun q hq => by injection hq with hq; omega)
      have hfm3 := hF3.fm
      have hfr3 := hfr.then_ b23
      go_wp2_with fail
      refine (left_any hS3).mono ?_
      rintro e w4 ⟨rfl, rfl⟩
      go_wp2_with fail
      refine (framesOf_any _ hfr3 (by omega)).mono ?_
      rintro e w5 ⟨v5, rfl, hX5, hb5⟩
      obtain ⟨A5, c5, rfl, hXM5⟩ := hX5.form
      rw [hfl] at hXM5 ⊢
      go_wp2_with fail
      refine (framesOf_any _ (hfm3.then_ hb5) (by omega)).mono ?_
      rintro e w6 ⟨v6, rfl, hX6, hb6⟩
      obtain ⟨A6, c6, rfl, hXM6⟩ := hX6.form
      rw [hfl] at hXM6 ⊢
      go_wp2_with fail
      refine (same_fx _ (hXM5.then_ hb6) hXM6).mono ?_
      rintro e w7 ⟨rfl, q, rfl⟩
      go_wp2_with fail
      go_ret
      exact ⟨rfl, below_drewN (below_then bwr (below_then b23 (below_then hb5 hb6))) _⟩
theorem joins_all {A A2 : Option Addr} {n c n2 c2 : Nat} {fs : List Fr} {l2 : List UInt8} (w : World) (hfm : FM w w.heap.size A n c fs) (hl2 : SW w A2 n2 c2 l2) (hr : ∀ f ∈ fs, FrRng f) :
    Calls Try.prog 10 #[.slice A n c, .slice A2 n2 c2] w fun e w' => e = .returned (.bool true) ∧ Below w.heap.size w w' := by
  by_cases h : 10 < n ∨ 100 < n2
  · exact joins_out w hfm hl2 h
  · exact joins_in w hfm hl2 (by omega) (by omega) hr
end Go.Proofs.Ytiehhoonfneccaa
