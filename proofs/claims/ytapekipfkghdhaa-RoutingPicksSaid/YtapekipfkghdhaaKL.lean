/- RoutingOne: the walk. No condition. -/
import Derived.Test.YtapekipfkghdhaaKK
namespace Go.Proofs.Ytapekipfkghdhaa
open Go.RowKit
theorem not_tooLong {ps : List Part} (h : ∀ p ∈ ps, p.n ≤ 1000) : tooLong ps = false := by
  unfold tooLong
  rw [List.any_eq_false]
  intro p hp
  have := h p hp
  simp
  omega
theorem keyE_ok {ps : List Part} (h : ∀ p ∈ ps, p.n ≤ 1000) (h0 : ¬ ps.length = 0) : keyE ps = 0 := by
  unfold keyE
  rw [if_neg h0]
  by_cases h1 : ps.length = 1
  · rw [if_pos h1]
  · rw [if_neg h1, if_neg (by rw [not_tooLong h]; simp)]
theorem keyB_ok {ps : List Part} (h : ∀ p ∈ ps, p.n ≤ 1000) (h2 : 2 ≤ ps.length) : keyB ps = keyL ps := by
  unfold keyB
  rw [if_neg (by omega), if_neg (by omega), if_neg (by rw [not_tooLong h]; simp)]
theorem keyB_one (p : Part) : keyB [p] = p.l := by
  unfold keyB
  rw [if_neg (by simp), if_pos (by simp)]
  simp
/-- How long the key of several is. -/
def sumN (ps : List Part) : Nat := (ps.map fun p => p.n + 3).sum
theorem sumN_take (ps : List Part) (k : Nat) (h : k < ps.length) : sumN (ps.take (k + 1)) = sumN (ps.take k) + (ps[k].n + 3) := by
  rw [List.take_succ_eq_append_getElem h]
  unfold sumN
  rw [List.map_append, List.sum_append]
  simp
theorem keyL_sum {ps : List Part} {B : Nat} {w : World} (hp : ∀ p ∈ ps, BS w B p.A p.n p.c p.l) : (keyL ps).length = sumN ps := by
  induction ps with
  | nil => rfl
  | cons p ps ih =>
    have h1 := ih (fun q hq => hp q (List.mem_cons_of_mem _ hq))
    have h2 := (hp p List.mem_cons_self).len
    unfold keyL at h1 ⊢
    unfold sumN at h1 ⊢
    rw [List.flatMap_cons, List.length_append, List.length_append, List.length_append, putB_len, h1, List.map_cons, List.sum_cons]
    simp only [List.length_cons, List.length_nil]
    omega
theorem PS.one {w : World} {B n c : Nat} {A : Option Addr} {ps : List Part} (h : PS w B A n c ps) (hn : 0 < n) : PS w B A 1 c (ps.take 1) :=
  ⟨by rw [List.length_take, h.len]; omega, Nat.le_trans hn h.cap, h.max, fun _ => by
    obtain ⟨g, o, e, hg, hp⟩ := h.at_ hn
    refine ⟨g, o, e, hg, fun i hi => ?_, fun i hi => ?_⟩
    · rw [List.getElem_take]; exact hp.cell i (by rw [List.length_take] at hi; omega)
    · rw [List.getElem_take]; exact hp.bs i (by rw [List.length_take] at hi; omega)⟩
set_option maxRecDepth 20000 in
theorem one_out {A : Option Addr} {n c : Nat} {ps : List Part} (w : World) (hps : PS w w.heap.size A n c ps) (hn : n = 0 ∨ 20 < n) :
    Calls Try.prog 12 #[.slice A n c] w fun e w' => e = .returned (.bool true) ∧ Below w.heap.size w w' := by
  have hm := Nat.le_trans hps.cap hps.max
  unfold maxLen at hm
  rcases hn with hn | hn
  · subst hn
    go_enter Try.func12, Try.ntmps12
    go_wp2_with fail
    refine (awake12 _).mono ?_
    rintro e w1 ⟨rfl, hb1⟩
    go_wp2_with fail
    go_ret
    exact ⟨rfl, hb1⟩
  · go_enter Try.func12, Try.ntmps12
    go_wp2_with fail
    refine (awake12 _).mono ?_
    rintro e w1 ⟨rfl, hb1⟩
    go_wp2_with fail
    go_ret
    exact ⟨rfl, hb1⟩
set_option maxRecDepth 20000 in
set_option maxHeartbeats 1600000 in
theorem one_in {A : Option Addr} {n c : Nat} {ps : List Part} (w : World) (hps : PS w w.heap.size A n c ps) (hn0 : 0 < n) (hn : n ≤ 20) :
    Calls Try.prog 12 #[.slice A n c] w fun e w' => e = .returned (.bool true) ∧ Below w.heap.size w w' := by
  have hpl := hps.len
  have hcc := hps.cap
  have hcm := hps.max
  unfold maxLen at hcm
  have z0 : ((n : Int) == 0) = false := beq_eq_false_iff_ne.2 (by omega)
  obtain ⟨g, o, rfl, hg, hp⟩ := hps.at_ hn0
  obtain ⟨p0, hp0⟩ : ∃ p0, ps[0]'(by omega) = p0 := ⟨_, rfl⟩
  have ht1 : ps.take 1 = [p0] := by
    have := List.take_succ_eq_append_getElem (l := ps) (i := 0) (by omega)
    simpa [hp0] using this
  go_enter Try.func12, Try.ntmps12
  go_wp2_with fail
  refine (awake12 _).mono ?_
  rintro e w1 ⟨rfl, hb1⟩
  go_wp2_with fail
  go_loop [4, 5] (fun v i => ∃ k s : Nat, k ≤ n ∧ i = .int .i64 k ∧ v = .int .i64 s ∧ s ≤ 1003 * k ∧ Hid (s = sumN (ps.take k)) ∧ Hid (∀ p ∈ ps.take k, p.n ≤ 1000)) (fun _ i => n - (intOf i).toNat)
  case atStart => exact ⟨0, 0, Nat.zero_le _, rfl, rfl, Nat.le_refl _, Lib.hid rfl, Lib.hid (fun p h => by simp at h)⟩
  case round =>
    obtain ⟨k, s, hk, rfl, rfl, hs, hsum, hall⟩ := hrel
    by_cases hlt : k < n
    · have hkp : k < ps.length := by omega
      have hck := (hp.below hb1 hg).cell k hkp
      have hbk := (hp.below hb1 hg).bs k hkp
      have htk : ps.take (k + 1) = ps.take k ++ [ps[k]] := List.take_succ_eq_append_getElem hkp
      have hst := sumN_take ps k hkp
      rw [← hsum.out] at hst
      obtain ⟨p, hpk⟩ : ∃ p, ps[k] = p := ⟨_, rfl⟩
      rw [hpk] at hck hbk htk hst
      have hm1 := Nat.le_trans hbk.cap hbk.max
      unfold maxLen at hm1
      by_cases h3 : 1000 < p.n
      · clear htk hst hp0 ht1
        go_wp2_with fail
        go_ret
        exact ⟨rfl, hb1⟩
      · have HALL := Lib.hid (show ∀ q ∈ ps.take (k + 1), q.n ≤ 1000 by
          rw [htk]
          intro q hq
          rcases List.mem_append.1 hq with hq | hq
          · exact hall.out q hq
          · simp at hq; subst hq; omega)
        have HST := Lib.hid hst.symm
        clear htk hall hm1 hst hp0 ht1 hsum
        go_wp2_with fail
        exact ⟨⟨k + 1, s + (p.n + 3), by omega, by go_num, by go_num, by omega, HST, HALL⟩, by simp [intOf]; omega⟩
    · obtain rfl : k = n := by omega
      have hall := hall.out
      have hsum := hsum.out
      rw [List.take_of_length_le (by omega)] at hall hsum
      have hps1 := hps.then_ hb1
      have hone1 := hps1.one hn0
      rw [ht1] at hone1
      have hE1 : keyE [p0] = 0 := rfl
      have hB1 := keyB_one p0
      have hE := keyE_ok hall (by omega)
      have hmem0 : p0 ∈ ps := by rw [← hp0]; exact List.getElem_mem _
      have hc0 := (hp.below hb1 hg).cell 0 (by omega)
      rw [hp0] at hc0
      have hbp0 := hps.part p0 hmem0
      obtain ⟨K, hK⟩ : ∃ K, keyB ps = K := ⟨_, rfl⟩
      have hKL : 2 ≤ k → K.length = s := fun h2 => by rw [← hK, keyB_ok hall (by omega), keyL_sum hps.part, hsum]
      have hKB := Lib.hid (show K.length ≤ 1003 * ps.length by rw [← hK]; exact keyB_len (fun p hp => by rw [(hps.part p hp).len]; exact hall p hp))
      have HK := Lib.hid hK
      have HE := Lib.hid hE
      have HKL := Lib.hid hKL
      have HN := Lib.hid (show ∀ i (h : i < ps.length), ps[i].n ≤ 140737488355328 from fun i h => by have := hall _ (List.getElem_mem h); omega)
      have HN0 := Lib.hid (show ∀ i (h : i < [p0].length), [p0][i].n ≤ 140737488355328 from fun i h => by
        obtain rfl : i = 0 := by simpa using h
        have := hall _ hmem0
        simp only [List.getElem_cons_zero]
        omega)
      obtain ⟨A0, n0, c0, l0⟩ := p0
      simp only [Nat.add_zero] at hc0 hB1 hbp0
      clear hall hsum hKL hK hE hp0 ht1 hmem0
      have ic : (1 : Int) ≤ (c : Int) := by omega
      have ic2 : 1 ≤ c := by omega
      go_wp2_with fail
      refine (key_any _ hone1 (by omega) HN0.out).mono ?_
      rintro e w2 ⟨v2, N2, rfl, hown2, hb2⟩
      rw [hB1] at hown2
      rw [hE1]
      obtain ⟨A2, c2, rfl, sw2⟩ := SW.of_own hown2
      have hps2 := hps1.then_ hb2
      go_wp2_with fail
      refine (key_any _ hps2 (by omega) HN.out).mono ?_
      rintro e w3 ⟨v3, N3, rfl, hown3, hb3⟩
      rw [HK.out] at hown3
      rw [HE.out]
      obtain ⟨A3, c3, rfl, sw3⟩ := SW.of_own hown3
      have hps3 := hps2.then_ hb3
      go_wp2_with fail
      refine (rtoken12 _ hps3 (by omega) HN.out).mono ?_
      rintro e w4 ⟨rfl, hb4⟩
      rw [HE.out, HK.out, if_pos rfl]
      obtain ⟨t, ht⟩ : ∃ t, tok (hh K) = t := ⟨_, rfl⟩
      rw [ht]
      have HT := Lib.hid ht
      clear ht
      have b24 := below_then hb3 hb4
      have hck4 : w4.cell? ⟨g, o, none⟩ = some (.slice A0 n0 c0) := ((below_then hb2 b24).cell (p := ⟨g, o, none⟩) (Nat.lt_of_lt_of_le hg hb1.size)).trans hc0
      have sw24 := sw2.then_ b24
      have hbp4 := hbp0.below (below_then hb1 (below_then hb2 b24))
      have sw34 := sw3.then_ hb4
      have s1 := str_drawn sw24
      have s2 := str_drawn hbp4
      have hN3 := own_len hown3
      by_cases h1k : k = 1
      · subst h1k
        have hN3b : N3 ≤ 140737488355328 := by
          have := hKB.out
          omega
        clear hown2 hown3 hN3
        go_wp2_with fail
        go_quiet (fail)
        go_wp2_with fail
        have hpsK := PS.lit (w4.drewN nq) 22 w4.heap.size [⟨A3, N3, c3, K⟩] #[.slice A3 N3 c3] rfl rfl 1 rfl (by simp [maxLen]) (by
          intro p hp
          simp at hp
          subst hp
          exact sw34.drewN nq)
        have hEK : keyE [⟨A3, N3, c3, K⟩] = 0 := rfl
        have hBK := keyB_one ⟨A3, N3, c3, K⟩
        refine (rtoken12 _ hpsK (by omega) (fun i h => by
          obtain rfl : i = 0 := by simpa using h
          simp only [List.getElem_cons_zero]
          omega)).mono ?_
        rintro e w5 ⟨rfl, hb5⟩
        rw [hEK, hBK, if_pos rfl]
        simp only [HT.out]
        go_wp2_with fail
        go_ret
        exact ⟨rfl, below_then hb1 (below_then hb2 (below_then b24 (below_then (below_new (below_drewN (Below.refl _ _) _) _) hb5)))⟩
      · have hN3s : s = N3 := by rw [← hN3]; exact (HKL.out (by omega)).symm
        subst hN3s
        have hN3b : s ≤ 140737488355328 := by omega
        have hk1 : (1 : Int) < (k : Int) := by omega
        clear hown2 hown3 hN3
        go_wp2_with fail
        go_quiet (fail)
        go_wp2_with fail
        have hpsK := PS.lit (w4.drewN nq) 22 w4.heap.size [⟨A3, s, c3, K⟩] #[.slice A3 s c3] rfl rfl 1 rfl (by simp [maxLen]) (by
          intro p hp
          simp at hp
          subst hp
          exact sw34.drewN nq)
        have hEK : keyE [⟨A3, s, c3, K⟩] = 0 := rfl
        have hBK := keyB_one ⟨A3, s, c3, K⟩
        refine (rtoken12 _ hpsK (by omega) (fun i h => by
          obtain rfl : i = 0 := by simpa using h
          simp only [List.getElem_cons_zero]
          omega)).mono ?_
        rintro e w5 ⟨rfl, hb5⟩
        rw [hEK, hBK, if_pos rfl]
        simp only [HT.out]
        go_wp2_with fail
        go_ret
        exact ⟨rfl, below_then hb1 (below_then hb2 (below_then b24 (below_then (below_new (below_drewN (Below.refl _ _) _) _) hb5)))⟩
theorem one_all {A : Option Addr} {n c : Nat} {ps : List Part} (w : World) (hps : PS w w.heap.size A n c ps) :
    Calls Try.prog 12 #[.slice A n c] w fun e w' => e = .returned (.bool true) ∧ Below w.heap.size w w' := by
  by_cases h : n = 0 ∨ 20 < n
  · exact one_out w hps h
  · exact one_in w hps (by omega) (by omega)
end Go.Proofs.Ytapekipfkghdhaa
