/- routing.Parts: what it computes, where the bytes' memory takes at most 2^40. -/
import Derived.Test.YtapekipfkghdhaaKC
import Derived.WalkMore
namespace Go.Proofs.Ytapekipfkghdhaa
open Go.RowKit
/-- The parts of a key, the error. -/
def prt : Nat → List UInt8 → List (List UInt8) × Int
  | 0, _ => ([], 0)
  | k + 1, l =>
    if l.length = 0 then ([], 0)
    else if l.length < 2 then ([], 10)
    else if l.length - 2 < (getV (l.take 2)).toNat + 1 then ([], 10)
    else if (l.drop 2).getD (getV (l.take 2)).toNat 0 ≠ 0 then ([], 11)
    else if (prt k ((l.drop 2).drop ((getV (l.take 2)).toNat + 1))).2 = 0 then ((l.drop 2).take (getV (l.take 2)).toNat :: (prt k ((l.drop 2).drop ((getV (l.take 2)).toNat + 1))).1, 0)
    else ([], (prt k ((l.drop 2).drop ((getV (l.take 2)).toNat + 1))).2)
/-- Parts that were found, and what the rest comes to. -/
def comb (acc : List (List UInt8)) (t : List (List UInt8) × Int) : List (List UInt8) × Int := if t.2 = 0 then (acc ++ t.1, 0) else ([], t.2)
def lenAt (w : World) (p : Nat) : Nat := match w.cell? ⟨p, 0, none⟩ with
  | some (.slice _ n _) => n
  | _ => 0
theorem lenAt_row {w : World} {p : Nat} {t : TypeId} {A : Option Addr} {n c : Nat} (h : Row w p t #[.slice A n c]) : lenAt w p = n := by
  unfold lenAt
  rw [h.cell]
  rfl
theorem prt_none (k : Nat) (l : List UInt8) (hk : 0 < k) (h : l.length = 0) : prt k l = ([], 0) := by
  obtain ⟨j, rfl⟩ : ∃ j, k = j + 1 := ⟨k - 1, by omega⟩
  unfold prt
  rw [if_pos h]
theorem prt_one (k : Nat) (l : List UInt8) (hk : 0 < k) (h0 : ¬ l.length = 0) (h : l.length < 2) : prt k l = ([], 10) := by
  obtain ⟨j, rfl⟩ : ∃ j, k = j + 1 := ⟨k - 1, by omega⟩
  unfold prt
  rw [if_neg h0, if_pos h]
theorem prt_short (k : Nat) (l : List UInt8) (z : Nat) (hk : 0 < k) (h2 : ¬ l.length < 2) (hz : getV (l.take 2) = z) (h : l.length - 2 < z + 1) : prt k l = ([], 10) := by
  obtain ⟨j, rfl⟩ : ∃ j, k = j + 1 := ⟨k - 1, by omega⟩
  unfold prt
  rw [if_neg (by omega), if_neg h2, hz, Int.toNat_natCast, if_pos h]
theorem prt_form (k : Nat) (l : List UInt8) (z : Nat) (hk : 0 < k) (h2 : ¬ l.length < 2) (hz : getV (l.take 2) = z) (h : ¬ l.length - 2 < z + 1) (hx : (l.drop 2).getD z 0 ≠ 0) : prt k l = ([], 11) := by
  obtain ⟨j, rfl⟩ : ∃ j, k = j + 1 := ⟨k - 1, by omega⟩
  unfold prt
  rw [if_neg (by omega), if_neg h2, hz, Int.toNat_natCast, if_neg h, if_pos hx]
theorem prt_more (j : Nat) (l : List UInt8) (z : Nat) (h2 : ¬ l.length < 2) (hz : getV (l.take 2) = z) (h : ¬ l.length - 2 < z + 1) (hx : (l.drop 2).getD z 0 = 0) : prt (j + 1) l = comb [(l.drop 2).take z] (prt j ((l.drop 2).drop (z + 1))) := by
  conv => lhs; unfold prt
  rw [if_neg (by omega), if_neg h2, hz, Int.toNat_natCast, if_neg h, if_neg (by simpa using hx)]
  rfl
theorem comb_comb (a b : List (List UInt8)) (t : List (List UInt8) × Int) : comb a (comb b t) = comb (a ++ b) t := by
  unfold comb
  by_cases h : t.2 = 0
  · simp [h]
  · simp [h]
theorem prt_err (k : Nat) : ∀ l : List UInt8, (prt k l).2 ≠ 0 → (prt k l).1 = [] := by
  cases k with
  | zero => intro l h; exact absurd rfl h
  | succ k =>
    intro l h
    unfold prt at h ⊢
    by_cases c0 : l.length = 0
    · rw [if_pos c0] at h; exact absurd rfl h
    · rw [if_neg c0] at h ⊢
      by_cases c1 : l.length < 2
      · rw [if_pos c1]
      · rw [if_neg c1] at h ⊢
        by_cases c2 : l.length - 2 < (getV (l.take 2)).toNat + 1
        · rw [if_pos c2]
        · rw [if_neg c2] at h ⊢
          by_cases c3 : (l.drop 2).getD (getV (l.take 2)).toNat 0 ≠ 0
          · rw [if_pos c3]
          · rw [if_neg c3] at h ⊢
            by_cases c4 : (prt k ((l.drop 2).drop ((getV (l.take 2)).toNat + 1))).2 = 0
            · rw [if_pos c4] at h; exact absurd rfl h
            · rw [if_neg c4]
theorem boxes {w w1 : World} {p q : Nat} {a b : Value} (hp : Row w p 22 #[a]) (hq : Row w q 34 #[b]) (hne : p ≠ q) (hb : Below w.heap.size w w1) (x y : Value) :
    Row ((w1.setCell ⟨p, 0, none⟩ x).setCell ⟨q, 0, none⟩ y) p 22 #[x] ∧ Row ((w1.setCell ⟨p, 0, none⟩ x).setCell ⟨q, 0, none⟩ y) q 34 #[y] :=
  ⟨((hp.below hb hp.lt).set_ 0 x).far hne y, ((hq.below hb hq.lt).far (Ne.symm hne) x).set_ 0 y⟩
theorem PT.boxes {w w1 : World} {base p q : Nat} {v x y : Value} {ps : List Part} (h : PT w base v ps) (hp : p < base) (hq : q < base) (hb : Below w.heap.size w w1) : PT ((w1.setCell ⟨p, 0, none⟩ x).setCell ⟨q, 0, none⟩ y) base v ps := ((h.below hb).far hp).far hq
theorem own_boxes {w w1 : World} {base p q e size n : Nat} {v x y : Value} {xs : List Value} (h : w1.ownsRow w.heap.size e size v n xs) (hp : p < base) (hq : q < base) (hb : base ≤ w.heap.size) : ((w1.setCell ⟨p, 0, none⟩ x).setCell ⟨q, 0, none⟩ y).ownsRow base e size v n xs :=
  own_far (own_far (owns_mono h hb) (set_grown _ _ _ _) hp) (set_grown _ _ _ _) hq
theorem PT.mono {w : World} {base base' : Nat} {v : Value} {ps : List Part} (h : PT w base v ps) (hb : base' ≤ base) : PT w base' v ps :=
  ⟨owns_mono h.row hb, h.bs, fun p hp a ha => ⟨Nat.le_trans hb (h.ob p hp a ha).1, (h.ob p hp a ha).2⟩⟩
set_option maxRecDepth 20000 in
set_option maxHeartbeats 3200000 in
theorem parts_any {A : Option Addr} {m c : Nat} {l : List UInt8} (w : World) (hl : BS w w.heap.size A m c l) (hm : m ≤ 1099511627776) :
    Calls Try.prog 25 #[.slice A m c] w fun e w' => ∃ v ps, e = .returned (.tuple #[v, .int .i64 (prt (m + 1) l).2]) ∧ PT w' w.heap.size v ps ∧ ps.map (·.l) = (prt (m + 1) l).1 ∧ Below w.heap.size w w' := by
  have hml := hl.len
  subst hml
  obtain ⟨tot, htot⟩ : ∃ tot, prt (l.length + 1) l = tot := ⟨_, rfl⟩
  have HT := Lib.hid htot
  rw [htot]
  clear htot
  go_enter Try.func25, Try.ntmps25
  go_wp2_with fail
  go_loopw [4] (fun v wr => ∃ (k : Nat) (r : List UInt8) (A : Option Addr) (c : Nat) (ps : List Part), Row wr w.heap.size 22 #[.slice A r.length c] ∧ Row wr (w.heap.size + 1) 34 #[.int .i64 0] ∧ BS wr w.heap.size A r.length c r ∧ PT wr (w.heap.size + 2) v ps ∧ Below w.heap.size w wr ∧ w.heap.size + 2 ≤ wr.heap.size ∧ r.length < k ∧ ps.length + r.length ≤ 1099511627776 ∧ Hid (tot = comb (ps.map (·.l)) (prt k r))) (fun _ wr => lenAt wr w.heap.size)
  case atStart =>
    refine ⟨l.length + 1, l, A, c, [], (Row.new w _ _).alloc _, by have := Row.new (w.alloc (.cells #[.slice A l.length c] 22)) 34 #[.int .i64 0]; simpa using this, (hl.alloc (Nat.le_refl _) _).alloc (by simp) _, PT.nil _ _, below_new (below_new (Below.refl _ _) _) _, by simp, by omega, by simpa using hm, Lib.hid ?_⟩
    rw [HT.out]
    unfold comb
    by_cases h : tot.2 = 0
    · rw [if_pos h]; simp [← h]
    · rw [if_neg h]
      have := prt_err (l.length + 1) l (by rw [HT.out]; exact h)
      rw [HT.out] at this
      rw [← this]
  case round =>
    obtain ⟨k, r, Ar, cr, ps, hp, hq, hbr, hPT, hbw, hsz, hk, hpr, htr⟩ := hrel
    have p0 : wr.cell? ⟨w.heap.size, 0, none⟩ = some (.slice Ar r.length cr) := hp.cell 0
    have q0 : wr.cell? ⟨w.heap.size + 1, 0, none⟩ = some (.int .i64 0) := hq.cell 0
    have hmx := hbr.max
    have hcp := hbr.cap
    unfold maxLen at hmx
    by_cases h0 : r.length = 0
    · have he := htr.out
      rw [prt_none k r (by omega) h0] at he
      have HE := Lib.hid (he.trans (show comb (ps.map (·.l)) ([], 0) = (ps.map (·.l), 0) by simp [comb]))
      clear he htr
      go_wp2_with fail
      go_quiet (fail)
      go_wp2_with fail
      go_ret2
      rw [HE.out]
      exact ⟨_, ps, rfl, (hPT.below (below_drewN (Below.refl _ _) _)).mono (by omega), rfl, below_drewN hbw _⟩
    · by_cases h2 : r.length < 2
      · have he := htr.out
        rw [prt_one k r (by omega) h0 h2] at he
        have HE := Lib.hid (he.trans (show comb (ps.map (·.l)) ([], 10) = ([], 10) by simp [comb]))
        clear he htr
        go_wp2_with fail
        refine (cap_short 2 _ hp hq (by unfold maxLen; omega) (by omega)).mono ?_
        rintro e w2 ⟨rfl, rfl⟩
        go_wp2_with fail
        refine (get_short none 0 0 2 _ (by omega) (by omega) (by omega)).mono ?_
        rintro e w3 ⟨rfl, rfl⟩
        go_wp2_with fail
        go_ret2
        rw [HE.out]
        exact ⟨_, [], rfl, PT.nil _ _, rfl, (hbw.setCell (by simp) _).setCell (by simp) _⟩
      · have HL0 := Lib.hid (lenAt_row hp)
        have hg2 := getV_bounds (r.take 2)
        have ht2 : (r.take 2).length = 2 := by rw [List.length_take]; omega
        rw [ht2] at hg2
        obtain ⟨z, hz⟩ : ∃ z : Nat, getV (r.take 2) = z := ⟨(getV (r.take 2)).toNat, by omega⟩
        have hz6 : z < 65536 := by have := hg2.2; rw [hz] at this; omega
        have HZ := Lib.hid hz
        have hd2 : (r.drop 2).length = r.length - 2 := List.length_drop
        clear hg2 hz
        go_wp2_with fail
        refine (cap_ok 2 _ hp hq hbr (Nat.le_of_lt (Nat.lt_of_lt_of_le (by omega) hsz)) (by omega) (by omega) (by omega)).mono ?_
        rintro e w2 ⟨v2, A2, w1, rfl, hown1, hbs1, hb1, rfl⟩
        have hown1 : w1.ownsRow wr.heap.size 5 1 v2 2 (bv (r.take 2)) := hown1
        have hbs1 : BS w1 w.heap.size A2 (r.length - 2) (cr - 2) (r.drop 2) := hbs1
        simp only [show (2 : Int).toNat = 2 from rfl]
        obtain ⟨hp2, hq2⟩ := boxes hp hq (by omega) hb1 (.slice A2 (r.length - 2) (cr - 2)) (.int .i64 0)
        have hPT2 := hPT.boxes (x := .slice A2 (r.length - 2) (cr - 2)) (y := .int .i64 0) (p := w.heap.size) (q := w.heap.size + 1) (by omega) (by omega) hb1
        have hown2 := own_boxes (x := .slice A2 (r.length - 2) (cr - 2)) (y := .int .i64 0) (p := w.heap.size) (q := w.heap.size + 1) (base := w.heap.size + 2) hown1 (by omega) (by omega) hsz
        have hbs2 := (hbs1.setCell (p := ⟨w.heap.size, 0, none⟩) (Nat.le_refl _) (.slice A2 (r.length - 2) (cr - 2))).setCell (p := ⟨w.heap.size + 1, 0, none⟩) (Nat.le_succ _) (.int .i64 0)
        have hbw2 := (below_then hbw hb1).setCell (p := ⟨w.heap.size, 0, none⟩) (Nat.le_refl _) (.slice A2 (r.length - 2) (cr - 2)) |>.setCell (p := ⟨w.heap.size + 1, 0, none⟩) (Nat.le_succ _) (.int .i64 0)
        have hsz2 : w.heap.size + 2 ≤ ((w1.setCell ⟨w.heap.size, 0, none⟩ (.slice A2 (r.length - 2) (cr - 2))).setCell ⟨w.heap.size + 1, 0, none⟩ (.int .i64 0)).heap.size := by
          have := hb1.size
          simp [World.setCell]
          omega
        obtain ⟨w2, hw2⟩ : ∃ w2, (w1.setCell ⟨w.heap.size, 0, none⟩ (.slice A2 (r.length - 2) (cr - 2))).setCell ⟨w.heap.size + 1, 0, none⟩ (.int .i64 0) = w2 := ⟨_, rfl⟩
        rw [hw2] at hp2 hq2 hPT2 hown2 hbs2 hbw2 hsz2 ⊢
        clear hw2 hown1 hbs1 hb1 hp hq hPT hbr
        obtain ⟨A3, c3, rfl, sw3⟩ := SW.of_own hown2
        go_wp2_with fail
        refine (get_any 2 _ sw3 (by omega) (by omega) (by omega)).mono ?_
        rintro e w3 ⟨A4, q4, rfl, _, rfl⟩
        simp only [show (2 : Int).toNat = 2 from rfl, List.take_take, Nat.min_self, HZ.out]
        have hD : Below w2.heap.size w2 (w2.drewN q4) := below_drewN (Below.refl _ _) _
        have hp3 := hp2.drewN q4
        have hq3 := hq2.drewN q4
        by_cases hs : r.length - 2 < z + 1
        · have he := htr.out
          rw [prt_short k r z (by omega) h2 HZ.out hs] at he
          have HE := Lib.hid (he.trans (show comb (ps.map (·.l)) ([], 10) = ([], 10) by simp [comb]))
          clear he htr
          go_wp2_with fail
          refine (cap_short ((z : Int) + 1) _ hp3 hq3 (by unfold maxLen; omega) (by omega)).mono ?_
          rintro e w4 ⟨rfl, rfl⟩
          have q5 : (((w2.drewN q4).setCell ⟨w.heap.size, 0, none⟩ (.slice none 0 0)).setCell ⟨w.heap.size + 1, 0, none⟩ (.int .i64 10)).cell? ⟨w.heap.size + 1, 0, none⟩ = some (.int .i64 10) := (boxes hp3 hq3 (by omega) (Below.refl _ _) _ _).2.cell 0
          go_wp2_with fail
          go_quiet (fail)
          go_wp2_with fail
          go_ret2
          rw [HE.out]
          exact ⟨_, [], rfl, PT.nil _ _, rfl, below_drewN (((below_drewN hbw2 _).setCell (by simp) _).setCell (by simp) _) _⟩
        · have hco := cap_ok ((z : Int) + 1) _ hp3 hq3 (hbs2.drewN q4) (Nat.le_trans (Nat.le_of_lt (by omega)) (hD.size)) (by omega) (by omega) (by omega)
          rw [show ((z : Int) + 1).toNat = z + 1 by omega] at hco
          have hPT3 := hPT2.below hD
          have hsz3 : w.heap.size + 2 ≤ (w2.drewN q4).heap.size := hsz2
          have hbw3 := below_drewN hbw2 q4
          obtain ⟨w3, hw3⟩ : ∃ w3, w2.drewN q4 = w3 := ⟨_, rfl⟩
          rw [hw3] at hp3 hq3 hco hPT3 hsz3 hbw3 ⊢
          clear hw3 hD hp2 hq2 hPT2 hown2 hbs2 hbw2 hsz2 sw3
          obtain ⟨b, hb8⟩ : ∃ b, (r.drop 2).getD z 0 = b := ⟨_, rfl⟩
          have hb9 : ((r.drop 2).take (z + 1))[z]? = some b := by
            rw [List.getElem?_take, if_pos (by omega), ← hb8, List.getD, List.getElem?_eq_getElem (by omega)]
            rfl
          have HB8 := Lib.hid hb8
          have HB9 := Lib.hid hb9
          have HCO := Lib.hid hco
          clear hb8 hb9 hco
          go_wp2_with fail
          refine HCO.out.mono ?_
          rintro e w4 ⟨v5, A5, w5, rfl, hown5, hbs5, hb5, rfl⟩
          obtain ⟨hp6, hq6⟩ := boxes hp3 hq3 (by omega) hb5 (.slice A5 (r.length - 2 - (z + 1)) (cr - 2 - (z + 1))) (.int .i64 0)
          have hPT6 := hPT3.boxes (x := .slice A5 (r.length - 2 - (z + 1)) (cr - 2 - (z + 1))) (y := .int .i64 0) (p := w.heap.size) (q := w.heap.size + 1) (by omega) (by omega) hb5
          have hown6 := own_boxes (x := .slice A5 (r.length - 2 - (z + 1)) (cr - 2 - (z + 1))) (y := .int .i64 0) (p := w.heap.size) (q := w.heap.size + 1) (base := w.heap.size + 2) hown5 (by omega) (by omega) hsz3
          have hbs6 := (hbs5.setCell (p := ⟨w.heap.size, 0, none⟩) (Nat.le_refl _) (.slice A5 (r.length - 2 - (z + 1)) (cr - 2 - (z + 1)))).setCell (p := ⟨w.heap.size + 1, 0, none⟩) (Nat.le_succ _) (.int .i64 0)
          have hbw6 := (below_then hbw3 hb5).setCell (p := ⟨w.heap.size, 0, none⟩) (Nat.le_refl _) (.slice A5 (r.length - 2 - (z + 1)) (cr - 2 - (z + 1))) |>.setCell (p := ⟨w.heap.size + 1, 0, none⟩) (Nat.le_succ _) (.int .i64 0)
          have hsz6 : w.heap.size + 2 ≤ ((w5.setCell ⟨w.heap.size, 0, none⟩ (.slice A5 (r.length - 2 - (z + 1)) (cr - 2 - (z + 1)))).setCell ⟨w.heap.size + 1, 0, none⟩ (.int .i64 0)).heap.size := by
            have := hb5.size
            simp [World.setCell]
            omega
          obtain ⟨w6, hw6⟩ : ∃ w6, (w5.setCell ⟨w.heap.size, 0, none⟩ (.slice A5 (r.length - 2 - (z + 1)) (cr - 2 - (z + 1)))).setCell ⟨w.heap.size + 1, 0, none⟩ (.int .i64 0) = w6 := ⟨_, rfl⟩
          rw [hw6] at hp6 hq6 hPT6 hown6 hbs6 hbw6 hsz6 ⊢
          clear hw6 hown5 hbs5 hb5 hp3 hq3 hPT3 hsz3 hbw3
          obtain ⟨A7, c7, rfl, sw7⟩ := SW.of_own hown6
          have hob7 := OB.own hown6
          have hc7 := BS.cap sw7
          have hm7 := BS.max sw7
          unfold maxLen at hm7
          obtain ⟨b7, o7, rfl, hb7, hcell7⟩ := BS.at_ sw7 (by omega)
          have hz7 : z < ((r.drop 2).take (z + 1)).length := by rw [List.length_take, hd2]; omega
          have hcz := hcell7 z hz7
          have hbz : ((r.drop 2).take (z + 1))[z] = b := by
            have := HB9.out
            rw [List.getElem?_eq_getElem hz7] at this
            exact Option.some.inj this
          rw [hbz] at hcz
          have q6 : w6.cell? ⟨w.heap.size + 1, 0, none⟩ = some (.int .i64 0) := hq6.cell 0
          by_cases hx : b = 0
          · subst hx
            have he := htr.out
            obtain ⟨j, rfl⟩ : ∃ j, k = j + 1 := ⟨k - 1, by omega⟩
            rw [prt_more j r z h2 HZ.out hs HB8.out, comb_comb] at he
            have HE := Lib.hid he
            have hcn : z ≤ c7 := by omega
            have sw8 : SW w6 (some ⟨b7, o7, none⟩) z c7 ((r.drop 2).take z) := by
              have := BS.upto sw7 (k := z) (by omega)
              rwa [List.take_take, Nat.min_eq_left (by omega)] at this
            obtain ⟨p, hpp⟩ : ∃ p : Part, p = ⟨some ⟨b7, o7, none⟩, z, c7, (r.drop 2).take z⟩ := ⟨_, rfl⟩
            have hba : Below w6.heap.size w6 (w6.alloc (.cells #[.slice (some ⟨b7, o7, none⟩) z c7] 22)) := below_new (Below.refl _ _) _
            have hrs := (hPT6.below hba).run_snoc p (g := w6.heap.size) (by rw [(Row.new w6 _ _).cell, hpp]; rfl) (by rw [hpp]; exact sw8.then_ hba) (by rw [hpp]; exact hob7.block fun k _ hk _ => hba.block k hk) (by simp; omega) (by omega)
            have HRS := Lib.hid hrs
            clear he htr hcell7 hrs
            have hpl : p.l = (r.drop 2).take z := by rw [hpp]
            obtain ⟨vv, w8, hrun, hPT8, hg8⟩ := HRS.out 33
            clear HRS hpp sw8 sw7 hob7 hba
            go_wp2_with (at_builtin; refine Lib.wpList_append_run _ rfl _ _ _ _ rfl _ _ rfl rfl _ _ hrun ?_)
            have hob := own_blk' hPT6.row
            have hlen : ((r.drop 2).drop (z + 1)).length = r.length - 2 - (z + 1) := by rw [List.length_drop, hd2]
            have hpa := (hp6.alloc (.cells #[.slice (some ⟨b7, o7, none⟩) z c7] 22)).grown hg8 (fun e => by have := hob _ e.symm; omega)
            have hqa := (hq6.alloc (.cells #[.slice (some ⟨b7, o7, none⟩) z c7] 22)).grown hg8 (fun e => by have := hob _ e.symm; omega)
            have hba8 := (hbs6.alloc (Nat.le_of_lt (by omega)) (.cells #[.slice (some ⟨b7, o7, none⟩) z c7] 22)).grown hg8 (by simp; omega) (fun g hg => by have := hob _ hg; omega)
            have hbw8 := (below_new hbw6 (.cells #[.slice (some ⟨b7, o7, none⟩) z c7] 22)).grown hg8 (by simp; omega) (fun g hg => by have := hob _ hg; omega)
            refine ⟨⟨j, (r.drop 2).drop (z + 1), A5, cr - 2 - (z + 1), ps ++ [p], by rw [hlen]; exact hpa, hqa, by rw [hlen]; exact hba8, hPT8, hbw8, ?_, by rw [hlen]; omega, by rw [hlen, List.length_append, List.length_singleton]; omega, Lib.hid ?_⟩, ?_⟩
            · have := hg8.size
              simp at this
              omega
            · rw [HE.out, List.map_append, List.map_cons, List.map_nil, hpl]
            · rw [lenAt_row hpa, HL0.out]; omega
          · have he := htr.out
            rw [prt_form k r z (by omega) h2 HZ.out hs (by rw [HB8.out]; exact hx)] at he
            have HE := Lib.hid (he.trans (show comb (ps.map (·.l)) ([], 11) = ([], 11) by simp [comb]))
            have hx' : ¬ (b.toNat : Int) = 0 := fun h => hx (UInt8.toNat_inj.1 (by simpa using h))
            clear he htr hcell7
            go_wp2_with fail
            go_ret2
            rw [HE.out]
            exact ⟨_, [], rfl, PT.nil _ _, rfl, hbw6⟩
end Go.Proofs.Ytapekipfkghdhaa
