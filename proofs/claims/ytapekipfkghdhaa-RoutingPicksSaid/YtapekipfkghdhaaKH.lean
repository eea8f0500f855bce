/- The reference's Parts: what it computes, of at most 2^40 bytes; RoutingParts: the walk. -/
import Derived.Test.YtapekipfkghdhaaKG
import Derived.Test.YtapekipfkghdhaaOG
namespace Go.Proofs.Ytapekipfkghdhaa
open Go.RowKit
theorem prt_fuel : ∀ (k j : Nat) (l : List UInt8), l.length < k → l.length < j → prt k l = prt j l := by
  intro k
  induction k with
  | zero => intro j l h; omega
  | succ k ih =>
    intro j l h1 h2
    obtain ⟨j, rfl⟩ : ∃ i, j = i + 1 := ⟨j - 1, by omega⟩
    unfold prt
    by_cases c0 : l.length = 0
    · rw [if_pos c0, if_pos c0]
    · rw [if_neg c0, if_neg c0]
      by_cases c1 : l.length < 2
      · rw [if_pos c1, if_pos c1]
      · rw [if_neg c1, if_neg c1]
        by_cases c2 : l.length - 2 < (getV (l.take 2)).toNat + 1
        · rw [if_pos c2, if_pos c2]
        · rw [if_neg c2, if_neg c2]
          have := ih j ((l.drop 2).drop ((getV (l.take 2)).toNat + 1)) (by rw [List.length_drop, List.length_drop]; omega) (by rw [List.length_drop, List.length_drop]; omega)
          rw [this]
set_option maxRecDepth 20000 in
set_option maxHeartbeats 1600000 in
theorem rparts_any {A : Option Addr} {m c : Nat} {l : List UInt8} (w : World) (hl : BS w w.heap.size A m c l) (hm : m ≤ 1099511627776) :
    Calls Try.prog 26 #[.slice A m c] w fun e w' => ∃ v ls, e = .returned (.tuple #[v, .int .i64 (prt (m + 1) l).2]) ∧ TX w' w.heap.size v ls ∧ ls = (prt (m + 1) l).1 ∧ Below w.heap.size w w' := by
  have hml := hl.len
  have hcp := hl.cap
  have hmx := hl.max
  unfold maxLen at hmx
  subst hml
  obtain ⟨tot, htot⟩ : ∃ tot, prt (l.length + 1) l = tot := ⟨_, rfl⟩
  have HT := Lib.hid htot
  rw [htot]
  clear htot
  go_enter Try.func26, Try.ntmps26
  go_wp2_with fail
  go_loopw [4, 5] (fun v i wr => ∃ (t : Nat) (ls : List (List UInt8)), t ≤ l.length ∧ i = .int .i64 t ∧ ls.length ≤ t ∧ TX wr w.heap.size v ls ∧ Below w.heap.size w wr ∧ Hid (tot = comb ls (prt (l.length + 1) (l.drop t)))) (fun _ i _ => l.length - (intOf i).toNat)
  case atStart =>
    refine ⟨0, [], Nat.zero_le _, rfl, Nat.le_refl _, World.ownsRow_nil _ _ _ _, Below.refl _ _, Lib.hid ?_⟩
    rw [List.drop_zero, HT.out]
    unfold comb
    by_cases h : tot.2 = 0
    · rw [if_pos h]; simp [← h]
    · rw [if_neg h]
      have := prt_err (l.length + 1) l (by rw [HT.out]; exact h)
      rw [HT.out] at this
      rw [← this]
  case round =>
    obtain ⟨t, ls, ht, rfl, hlt, hTX, hb, htr⟩ := hrel
    have hld : (l.drop t).length = l.length - t := List.length_drop
    have hlr : BS wr w.heap.size A l.length c l := hl.below hb
    by_cases h0 : l.length = t
    · have he := htr.out
      rw [prt_none _ _ (Nat.succ_pos _) (by rw [hld]; omega)] at he
      have HE := Lib.hid (he.trans (show comb ls ([], 0) = (ls, 0) by simp [comb]))
      clear he htr hl hld
      go_wp2_with fail
      go_ret2
      rw [HE.out]
      exact ⟨_, ls, rfl, hTX, rfl, hb⟩
    · by_cases h2 : l.length - t < 2
      · have he := htr.out
        rw [prt_one _ _ (Nat.succ_pos _) (by rw [hld]; omega) (by rw [hld]; omega)] at he
        have HE := Lib.hid (he.trans (show comb ls ([], 10) = ([], 10) by simp [comb]))
        clear he htr hl hld
        go_wp2_with fail
        refine (rget_short A l.length c t 2 _ (by omega) (by omega) (by omega) (by omega) (by omega) (by omega)).mono ?_
        rintro e w2 ⟨rfl, rfl⟩
        go_wp2_with fail
        go_ret2
        rw [HE.out]
        exact ⟨_, [], rfl, World.ownsRow_nil _ _ _ _, rfl, hb⟩
      · have hg2 := getV_bounds ((l.drop t).take 2)
        have ht2 : ((l.drop t).take 2).length = 2 := by rw [List.length_take, hld]; omega
        rw [ht2] at hg2
        obtain ⟨z, hz⟩ : ∃ z : Nat, getV ((l.drop t).take 2) = z := ⟨(getV ((l.drop t).take 2)).toNat, by omega⟩
        have hz6 : z < 65536 := by have := hg2.2; rw [hz] at this; omega
        have HZ := Lib.hid hz
        clear hg2 hz
        have hrg := rget_any (t : Int) 2 wr hlr (by omega) (by omega) (by omega) (by omega)
        rw [Int.toNat_natCast, show (2 : Int).toNat = 2 from rfl, HZ.out] at hrg
        have HRG := Lib.hid hrg
        clear hrg ht2
        by_cases hs : l.length ≤ t + 2 + z
        · have he := htr.out
          rw [prt_short _ _ z (Nat.succ_pos _) (by rw [hld]; omega) HZ.out (by rw [hld]; omega)] at he
          have HE := Lib.hid (he.trans (show comb ls ([], 10) = ([], 10) by simp [comb]))
          clear he htr hl hld
          go_wp2_with fail
          refine HRG.out.mono ?_
          rintro e w2 ⟨rfl, rfl⟩
          go_wp2_with fail
          go_ret2
          rw [HE.out]
          exact ⟨_, [], rfl, World.ownsRow_nil _ _ _ _, rfl, hb⟩
        · obtain ⟨b, o, rfl, _, hcell⟩ := hlr.at_ (by omega)
          have hi : t + 2 + z < l.length := by omega
          have hcz := hcell (t + 2 + z) hi
          obtain ⟨x, hx⟩ : ∃ x, l[t + 2 + z] = x := ⟨_, rfl⟩
          rw [hx] at hcz
          have hgd : ((l.drop t).drop 2).getD z 0 = x := by
            rw [List.drop_drop, List.getD, List.getElem?_drop, List.getElem?_eq_getElem hi, hx]
            rfl
          have HGD := Lib.hid hgd
          clear hgd hx hcell
          by_cases hx0 : x = 0
          · subst hx0
            have he := htr.out
            rw [prt_more _ _ z (by rw [hld]; omega) HZ.out (by rw [hld]; omega) HGD.out, comb_comb, List.drop_drop, List.drop_drop, prt_fuel _ (l.length + 1) _ (by rw [List.length_drop]; omega) (by rw [List.length_drop]; omega)] at he
            have HE := Lib.hid he
            have hF := hlr.from_ (k := t + 2) (by omega)
            rw [if_neg (by omega)] at hF
            simp only [Option.map_some, add_none] at hF
            have hU := hF.upto (k := z) (by omega)
            have hs1 := str_now hU
            have uc : ¬ c = t + 2 := by omega
            have i1 : (t : Int) + 2 ≤ (t : Int) + 2 + (z : Int) := by omega
            have i2 : (t : Int) + 2 + (z : Int) ≤ (c : Int) := by omega
            have i3 : (0 : Int) ≤ (t : Int) + 2 := by omega
            obtain ⟨u, hu⟩ : ∃ u, (l.drop (t + 2)).take z = u := ⟨_, rfl⟩
            rw [hu] at hs1
            have hba : Below wr.heap.size wr (wr.alloc (.cells #[.string ⟨u.toArray⟩] 9)) := below_new (Below.refl _ _) _
            have hta : TX (wr.alloc (.cells #[.string ⟨u.toArray⟩] 9)) w.heap.size _ ls := own_below hTX hba
            obtain ⟨vv, w8, hrun, hTX8, hg8⟩ := hta.run_snoc u (g := wr.heap.size) (by rw [(Row.new wr _ _).cell]; rfl) (below_then hb hba).size (by omega) 38
            have hob := own_blk' hTX
            have HU := Lib.hid hu
            clear he htr hl hld hu hta hF hU
            go_wp2_with fail
            refine HRG.out.mono ?_
            rintro e w2 ⟨rfl, rfl⟩
            go_wp2_with (at_builtin; refine Lib.wpList_append_run _ rfl _ _ _ _ rfl _ _ rfl rfl _ _ hrun ?_)
            refine ⟨⟨t + 2 + z + 1, ls ++ [u], by omega, by go_num, by rw [List.length_append, List.length_singleton]; omega, hTX8, (below_then hb hba).grown hg8 (below_then hb hba).size (fun g hg => hob g hg), Lib.hid ?_⟩, by simp [intOf]; omega⟩
            rw [HE.out, HU.out]
            rfl
          · have he := htr.out
            rw [prt_form _ _ z (Nat.succ_pos _) (by rw [hld]; omega) HZ.out (by rw [hld]; omega) (by rw [HGD.out]; exact hx0)] at he
            have HE := Lib.hid (he.trans (show comb ls ([], 11) = ([], 11) by simp [comb]))
            have hx' : ¬ (x.toNat : Int) = 0 := fun h => hx0 (UInt8.toNat_inj.1 (by simpa using h))
            clear he htr hl hld
            go_wp2_with fail
            refine HRG.out.mono ?_
            rintro e w2 ⟨rfl, rfl⟩
            go_wp2_with fail
            go_ret2
            rw [HE.out]
            exact ⟨_, [], rfl, World.ownsRow_nil _ _ _ _, rfl, hb⟩
end Go.Proofs.Ytapekipfkghdhaa
