/- RoutingKeys: the walk. No condition. -/
import Derived.Test.YtapekipfkghdhaaKJ
namespace Go.Proofs.Ytapekipfkghdhaa
open Go.RowKit
theorem keyL_len {ps : List Part} (h : ∀ p ∈ ps, p.l.length ≤ 1000) : (keyL ps).length ≤ 1003 * ps.length := by
  induction ps with
  | nil => simp [keyL]
  | cons p ps ih =>
    have h1 := ih (fun q hq => h q (List.mem_cons_of_mem _ hq))
    have h2 := h p List.mem_cons_self
    unfold keyL at h1 ⊢
    rw [List.flatMap_cons, List.length_append, List.length_append, List.length_append, putB_len]
    simp only [List.length_cons, List.length_nil]
    omega
theorem keyB_len {ps : List Part} (h : ∀ p ∈ ps, p.l.length ≤ 1000) : (keyB ps).length ≤ 1003 * ps.length := by
  unfold keyB
  by_cases h0 : ps.length = 0
  · rw [if_pos h0]; simp
  · rw [if_neg h0]
    by_cases h1 : ps.length = 1
    · rw [if_pos h1]
      obtain ⟨p, rfl⟩ := List.length_eq_one_iff.1 h1
      have := h p (by simp)
      simp
      omega
    · rw [if_neg h1]
      cases tooLong ps
      · simpa using keyL_len h
      · simp
theorem PS.part {w : World} {B n c : Nat} {A : Option Addr} {ps : List Part} (h : PS w B A n c ps) : ∀ p ∈ ps, BS w B p.A p.n p.c p.l := by
  intro p hp
  obtain ⟨i, hi, rfl⟩ := List.mem_iff_getElem.1 hp
  obtain ⟨g, o, _, _, hpo⟩ := h.at_ (by have := h.len; omega)
  exact hpo.bs i hi
set_option maxRecDepth 20000 in
theorem keys_out {A : Option Addr} {n c : Nat} {ps : List Part} (w : World) (hps : PS w w.heap.size A n c ps) (hn : 20 < n) :
    Calls Try.prog 8 #[.slice A n c] w fun e w' => e = .returned (.bool true) ∧ Below w.heap.size w w' := by
  have hm := Nat.le_trans hps.cap hps.max
  unfold maxLen at hm
  go_enter Try.func8, Try.ntmps8
  go_wp2_with fail
  refine (awake12 _).mono ?_
  rintro e w1 ⟨rfl, hb1⟩
  go_wp2_with fail
  go_ret
  exact ⟨rfl, hb1⟩
set_option maxRecDepth 20000 in
set_option maxHeartbeats 1600000 in
theorem keys_in {A : Option Addr} {n c : Nat} {ps : List Part} (w : World) (hps : PS w w.heap.size A n c ps) (hn : n ≤ 20) :
    Calls Try.prog 8 #[.slice A n c] w fun e w' => e = .returned (.bool true) ∧ Below w.heap.size w w' := by
  have hpl := hps.len
  obtain ⟨K, hK⟩ : ∃ K, keyB ps = K := ⟨_, rfl⟩
  obtain ⟨x, hx⟩ : ∃ x, keyE ps = x := ⟨_, rfl⟩
  have HK := Lib.hid hK
  have HX := Lib.hid hx
  clear hK hx
  go_enter Try.func8, Try.ntmps8
  go_wp2_with fail
  refine (awake12 _).mono ?_
  rintro e w1 ⟨rfl, hb1⟩
  go_wp2_with fail
  go_loop [4] (fun i => ∃ k : Nat, k ≤ n ∧ i = .int .i64 k ∧ Hid (∀ p ∈ ps.take k, p.n ≤ 1000)) (fun i => n - (intOf i).toNat)
  case atStart => exact ⟨0, Nat.zero_le _, rfl, Lib.hid (fun p h => by simp at h)⟩
  case round =>
    obtain ⟨k, hk, rfl, hall⟩ := hrel
    by_cases hlt : k < n
    · obtain ⟨g, o, rfl, hg, hp⟩ := hps.at_ (by omega)
      have hkp : k < ps.length := by omega
      have hck := (hp.below hb1 hg).cell k hkp
      have hbk := (hp.below hb1 hg).bs k hkp
      have htk : ps.take (k + 1) = ps.take k ++ [ps[k]] := List.take_succ_eq_append_getElem hkp
      obtain ⟨p, hpk⟩ : ∃ p, ps[k] = p := ⟨_, rfl⟩
      rw [hpk] at hck hbk htk
      have hm1 := Nat.le_trans hbk.cap hbk.max
      unfold maxLen at hm1
      by_cases h3 : 1000 < p.n
      · clear htk
        go_wp2_with fail
        go_ret
        exact ⟨rfl, hb1⟩
      · have HALL := Lib.hid (show ∀ q ∈ ps.take (k + 1), q.n ≤ 1000 by
          rw [htk]
          intro q hq
          rcases List.mem_append.1 hq with hq | hq
          · exact hall.out q hq
          · simp at hq; subst hq; omega)
        clear htk hall hm1
        go_wp2_with fail
        exact ⟨⟨k + 1, by omega, by go_num, HALL⟩, by simp [intOf]; omega⟩
    · obtain rfl : k = n := by omega
      have hall := hall.out
      rw [List.take_of_length_le (by omega)] at hall
      have hps1 := hps.then_ hb1
      have hkl := keyB_len (ps := ps) (fun p hp => by rw [(hps.part p hp).len]; exact hall p hp)
      rw [HK.out, hpl] at hkl
      have HKL := Lib.hid (show K.length ≤ 9223372036854775791 by omega)
      have HN := Lib.hid (show ∀ i (h : i < ps.length), ps[i].n ≤ 140737488355328 from fun i h => by have := hall _ (List.getElem_mem h); omega)
      clear hall hkl
      go_wp2_with fail
      refine (key_any _ hps1 (by omega) HN.out).mono ?_
      rintro e w2 ⟨v2, N2, rfl, hown2, hb2⟩
      rw [HK.out] at hown2
      rw [HX.out]
      obtain ⟨A2, c2, rfl, sw2⟩ := SW.of_own hown2
      have hps2 := hps1.then_ hb2
      go_wp2_with fail
      refine (texts_any _ hps2 (by omega)).mono ?_
      rintro e w3 ⟨v3, rfl, hTX3, hb3⟩
      obtain ⟨A3, c3, rfl, hTS3⟩ := hTX3.form
      have hps3 := hps2.then_ hb3
      rw [List.length_map] at hTS3 ⊢
      rw [hpl] at hTS3 ⊢
      go_wp2_with fail
      refine (rkey_any _ w hps.part hTS3 (by omega)).mono ?_
      rintro e w4 ⟨A4, N4, c4, rfl, sw4, hb4⟩
      rw [HK.out] at sw4
      rw [HX.out]
      have hps4 := hps3.then_ hb4
      go_wp2_with fail
      refine (rtoken12 _ hps4 (by omega) HN.out).mono ?_
      rintro e w5 ⟨rfl, hb5⟩
      rw [HX.out, HK.out]
      obtain ⟨t, ht⟩ : ∃ t, (if x = 0 then tok (hh K) else 0) = t := ⟨_, rfl⟩
      rw [ht]
      have HT := Lib.hid ht
      clear ht
      have hps5 := hps4.then_ hb5
      go_wp2_with fail
      refine (texts_any _ hps5 (by omega)).mono ?_
      rintro e w6 ⟨v6, rfl, hTX6, hb6⟩
      obtain ⟨A6, c6, rfl, hTS6⟩ := hTX6.form
      rw [List.length_map] at hTS6 ⊢
      rw [hpl] at hTS6 ⊢
      go_wp2_with fail
      refine (rrtok_any _ w hps.part hTS6 (by omega) (by rw [HK.out]; exact HKL.out)).mono ?_
      rintro e w7 ⟨rfl, hb7⟩
      rw [HX.out, HK.out, HT.out]
      have b47 := below_then hb5 (below_then hb6 hb7)
      have b27 := below_then hb3 (below_then hb4 b47)
      have s2 := str_now (sw2.then_ b27)
      have s4 := str_now (sw4.then_ b47)
      go_wp2_with fail
      go_ret
      exact ⟨rfl, below_then hb1 (below_then hb2 b27)⟩
theorem keys_all {A : Option Addr} {n c : Nat} {ps : List Part} (w : World) (hps : PS w w.heap.size A n c ps) :
    Calls Try.prog 8 #[.slice A n c] w fun e w' => e = .returned (.bool true) ∧ Below w.heap.size w w' := by
  by_cases h : 20 < n
  · exact keys_out w hps h
  · exact keys_in w hps (by omega)
end Go.Proofs.Ytapekipfkghdhaa
