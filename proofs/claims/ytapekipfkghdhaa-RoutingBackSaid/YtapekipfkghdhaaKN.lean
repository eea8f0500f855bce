/- RoutingBack: the walk. No condition. -/
import Derived.Test.YtapekipfkghdhaaKM
namespace Go.Proofs.Ytapekipfkghdhaa
open Go.RowKit
set_option maxRecDepth 20000 in
theorem back_out {A A2 : Option Addr} {n c n2 c2 : Nat} {ps qs : List Part} (w : World) (hps : PS w w.heap.size A n c ps) (hqs : PS w w.heap.size A2 n2 c2 qs) (hn : n < 2 ∨ n2 < 2 ∨ 20 < n ∨ 20 < n2) :
    Calls Try.prog 10 #[.slice A n c, .slice A2 n2 c2] w fun e w' => e = .returned (.bool true) ∧ Below w.heap.size w w' := by
  have hm := Nat.le_trans hps.cap hps.max
  have hm2 := Nat.le_trans hqs.cap hqs.max
  unfold maxLen at hm hm2
  by_cases h1 : n < 2
  · go_enter Try.func10, Try.ntmps10
    go_wp2_with fail
    refine (awake12 _).mono ?_
    rintro e w1 ⟨rfl, hb1⟩
    go_wp2_with fail
    go_ret
    exact ⟨rfl, hb1⟩
  · by_cases h2 : n2 < 2
    · go_enter Try.func10, Try.ntmps10
      go_wp2_with fail
      refine (awake12 _).mono ?_
      rintro e w1 ⟨rfl, hb1⟩
      go_wp2_with fail
      go_ret
      exact ⟨rfl, hb1⟩
    · by_cases h3 : 20 < n
      · go_enter Try.func10, Try.ntmps10
        go_wp2_with fail
        refine (awake12 _).mono ?_
        rintro e w1 ⟨rfl, hb1⟩
        go_wp2_with fail
        go_ret
        exact ⟨rfl, hb1⟩
      · have h4 : 20 < n2 := by omega
        go_enter Try.func10, Try.ntmps10
        go_wp2_with fail
        refine (awake12 _).mono ?_
        rintro e w1 ⟨rfl, hb1⟩
        go_wp2_with fail
        go_ret
        exact ⟨rfl, hb1⟩
theorem back_s {w w' : World} {A1 A2 : Option Addr} {N1 c1 N2 c2 : Nat} {K1 K2 : List UInt8} (s1 : SW w A1 N1 c1 K1) (s2 : SW w A2 N2 c2 K2) (hb : Below w.heap.size w w') :
    (convert 22 9 (.slice A1 N1 c1)).run Try.prog w' = .ok (.string ⟨K1.toArray⟩) w' ∧ (convert 22 9 (.slice A2 N2 c2)).run Try.prog w' = .ok (.string ⟨K2.toArray⟩) w' :=
  ⟨str_now (s1.then_ hb), str_now (s2.then_ hb)⟩
theorem texts_n {A : Option Addr} {n c : Nat} {ps : List Part} (w : World) (hps : PS w w.heap.size A n c ps) (hn : n ≤ 1099511627776) :
    Calls Try.prog 22 #[.slice A n c] w fun e w' => ∃ A' c', e = .returned (.slice A' n c') ∧ TS w' w'.heap.size A' n c' (ps.map (·.l)) ∧ Below w.heap.size w w' := by
  refine (texts_any w hps hn).mono ?_
  rintro e w' ⟨v, rfl, hTX, hb⟩
  obtain ⟨A', c', rfl, hTS⟩ := hTX.form
  have hl : (ps.map (·.l)).length = n := by rw [List.length_map]; exact hps.len
  rw [hl] at hTS ⊢
  exact ⟨A', c', rfl, hTS, hb⟩
set_option maxRecDepth 20000 in
set_option maxHeartbeats 3200000 in
theorem back_in {A A2 : Option Addr} {n c n2 c2 : Nat} {ps qs : List Part} (w : World) (hps : PS w w.heap.size A n c ps) (hqs : PS w w.heap.size A2 n2 c2 qs) (hn : 2 ≤ n) (hn20 : n ≤ 20) (hm : 2 ≤ n2) (hm20 : n2 ≤ 20) :
    Calls Try.prog 10 #[.slice A n c, .slice A2 n2 c2] w fun e w' => e = .returned (.bool true) ∧ Below w.heap.size w w' := by
  have hpl := hps.len
  have hql := hqs.len
  obtain ⟨g, o, rfl, hg, hp⟩ := hps.at_ (by omega)
  obtain ⟨g2, o2, rfl, hg2, hq⟩ := hqs.at_ (by omega)
  go_enter Try.func10, Try.ntmps10
  go_wp2_with fail
  refine (awake12 _).mono ?_
  rintro e w1 ⟨rfl, hb1⟩
  go_wp2_with fail
  go_loop [6] (fun i => ∃ k : Nat, k ≤ n ∧ i = .int .i64 k ∧ Hid (∀ p ∈ ps.take k, p.n ≤ 1000)) (fun i => n - (intOf i).toNat)
  case atStart => exact ⟨0, Nat.zero_le _, rfl, Lib.hid (fun p h => by simp at h)⟩
  case round =>
    obtain ⟨k, hk, rfl, hall⟩ := hrel
    by_cases hlt : k < n
    · have hkp : k < ps.length := by omega
      have hck := (hp.below hb1 hg).cell k hkp
      have hbk := (hp.below hb1 hg).bs k hkp
      have htk : ps.take (k + 1) = ps.take k ++ [ps[k]] := List.take_succ_eq_append_getElem hkp
      obtain ⟨p, hpk⟩ : ∃ p, ps[k] = p := ⟨_, rfl⟩
      rw [hpk] at hck hbk htk
      have hm1 := Nat.le_trans hbk.cap hbk.max
      unfold maxLen at hm1
      by_cases h3 : 1000 < p.n
      · clear htk
        go_wp2_with fail
        go_ret
        exact ⟨rfl, hb1⟩
      · have HALL := Lib.hid (show ∀ q ∈ ps.take (k + 1), q.n ≤ 1000 by
          rw [htk]
          intro q hq
          rcases List.mem_append.1 hq with hq | hq
          · exact hall.out q hq
          · simp at hq; subst hq; omega)
        clear htk hall hm1
        go_wp2_with fail
        exact ⟨⟨k + 1, by omega, by go_num, HALL⟩, by simp [intOf]; omega⟩
    · obtain rfl : k = n := by omega
      have hallp := hall.out
      rw [List.take_of_length_le (by omega)] at hallp
      have HALLP := Lib.hid hallp
      clear hallp hall
      go_wp2_with fail
      go_loop [7] (fun i => ∃ j : Nat, j ≤ n2 ∧ i = .int .i64 j ∧ Hid (∀ p ∈ qs.take j, p.n ≤ 1000)) (fun i => n2 - (intOf i).toNat)
      case atStart => exact ⟨0, Nat.zero_le _, rfl, Lib.hid (fun p h => by simp at h)⟩
      case round =>
        obtain ⟨j, hj, rfl, hall⟩ := hrel
        by_cases hlt2 : j < n2
        · have hkp : j < qs.length := by omega
          have hck := (hq.below hb1 hg2).cell j hkp
          have hbk := (hq.below hb1 hg2).bs j hkp
          have htk : qs.take (j + 1) = qs.take j ++ [qs[j]] := List.take_succ_eq_append_getElem hkp
          obtain ⟨p, hpk⟩ : ∃ p, qs[j] = p := ⟨_, rfl⟩
          rw [hpk] at hck hbk htk
          have hm1 := Nat.le_trans hbk.cap hbk.max
          unfold maxLen at hm1
          by_cases h3 : 1000 < p.n
          · clear htk
            go_wp2_with fail
            go_ret
            exact ⟨rfl, hb1⟩
          · have HALL := Lib.hid (show ∀ q ∈ qs.take (j + 1), q.n ≤ 1000 by
              rw [htk]
              intro q hq
              rcases List.mem_append.1 hq with hq | hq
              · exact hall.out q hq
              · simp at hq; subst hq; omega)
            clear htk hall hm1
            go_wp2_with fail
            exact ⟨⟨j + 1, by omega, by go_num, HALL⟩, by simp [intOf]; omega⟩
        · obtain rfl : j = n2 := by omega
          have hallq := hall.out
          rw [List.take_of_length_le (by omega)] at hallq
          have hallp := HALLP.out
          have hps1 := hps.then_ hb1
          have hqs1 := hqs.then_ hb1
          have hfp : ∀ p ∈ ps, p.l.length = p.n ∧ p.n ≤ 65535 := fun p hp => ⟨(hps.part p hp).len, by have := hallp p hp; omega⟩
          have hfq : ∀ p ∈ qs, p.l.length = p.n ∧ p.n ≤ 65535 := fun p hp => ⟨(hqs.part p hp).len, by have := hallq p hp; omega⟩
          have hinj := keyL_inj hfp hfq
          have hKp := keyB_ok hallp (by omega)
          have hKq := keyB_ok hallq (by omega)
          have hEp := keyE_ok hallp (by omega)
          have hEq := keyE_ok hallq (by omega)
          obtain ⟨K, hK⟩ : ∃ K, keyL ps = K := ⟨_, rfl⟩
          obtain ⟨L, hL⟩ : ∃ L, keyL qs = L := ⟨_, rfl⟩
          rw [hK] at hKp hinj
          rw [hL] at hKq hinj
          have hback : ∀ N, K.length = N → prt (N + 1) K = (ps.map (·.l), 0) := fun N hN => by rw [← hK] at hN ⊢; exact prt_back hfp hN
          have hKlen : K.length ≤ 1003 * ps.length := by rw [← hK]; exact keyL_len (fun p hp => by rw [(hfp p hp).1]; exact hallp p hp)
          have HN := Lib.hid (show ∀ i (h : i < ps.length), ps[i].n ≤ 140737488355328 from fun i h => by have := hallp _ (List.getElem_mem h); omega)
          have HN2 := Lib.hid (show ∀ i (h : i < qs.length), qs[i].n ≤ 140737488355328 from fun i h => by have := hallq _ (List.getElem_mem h); omega)
          have HINJ := Lib.hid hinj
          have HB := Lib.hid hback
          have HKp := Lib.hid hKp
          have HKq := Lib.hid hKq
          have HEp := Lib.hid hEp
          have HEq := Lib.hid hEq
          have HKL := Lib.hid hKlen
          clear hinj hback hKp hKq hEp hEq hK hL hallp hallq hall hfp hfq hKlen
          go_wp2_with fail
          refine (key_any _ hps1 (by omega) HN.out).mono ?_
          rintro e w2 ⟨v2, N2, rfl, hown2, hb2⟩
          rw [HKp.out] at hown2
          rw [HEp.out]
          have hN2 := own_len hown2
          obtain ⟨A2, c2', rfl, sw2⟩ := SW.of_own hown2
          have hqs2 := hqs1.then_ hb2
          go_wp2_with fail
          refine (key_any _ hqs2 (by omega) HN2.out).mono ?_
          rintro e w3 ⟨v3, N3, rfl, hown3, hb3⟩
          rw [HKq.out] at hown3
          rw [HEq.out]
          obtain ⟨A3, c3, rfl, sw3⟩ := SW.of_own hown3
          have sw23 := sw2.then_ hb3
          have hNb : N2 ≤ 1099511627776 := by have := HKL.out; omega
          have hb' := HB.out N2 hN2
          have HB' := Lib.hid hb'
          clear hb' hN2 hown2 hown3
          go_wp2_with fail
          refine (parts_any _ sw23 hNb).mono ?_
          rintro e w4 ⟨v4, ps4, rfl, hPT4, hm4, hb4⟩
          rw [HB'.out] at hm4 ⊢
          obtain ⟨A4, c4, rfl, hPS4⟩ := hPT4.form
          have hl4 : ps4.length = k := by
            have := congrArg List.length hm4
            simpa [hpl] using this
          rw [hl4] at hPS4 ⊢
          have hps4 := hps1.then_ (below_then hb2 (below_then hb3 hb4))
          have hqs4 := hqs1.then_ (below_then hb2 (below_then hb3 hb4))
          have sw24 := sw23.then_ hb4
          have sw34 := sw3.then_ hb4
          have b04 := below_then hb1 (below_then hb2 (below_then hb3 hb4))
          have HM4 := Lib.hid hm4
          clear hm4 hl4 hPT4 hps1 hqs1 hqs2 hp hq hps hqs hb1 hb2 hb3 hb4 sw2 sw3 sw23
          obtain ⟨D, hD⟩ : ∃ D, decide (ps.map (·.l) = qs.map (·.l)) = D := ⟨_, rfl⟩
          have hKD : (K == L) = D := by
            rw [← hD]
            by_cases e : K = L
            · rw [decide_eq_true (HINJ.out.1 e), e]; simp
            · rw [decide_eq_false (fun x => e (HINJ.out.2 x))]; simpa using e
          have HD := Lib.hid hD
          have HDa := Lib.hid (show decide (ps4.map (·.l) = ps.map (·.l)) = true by rw [HM4.out]; simp)
          clear hD
          go_upto_region 19 with fail
          go_region_held3 (fun w' => (convert 22 9 (.slice A2 N2 c2')).run Try.prog w' = .ok (.string ⟨K.toArray⟩) w' ∧ (convert 22 9 (.slice A3 N3 c3)).run Try.prog w' = .ok (.string ⟨L.toArray⟩) w')
            (first | (refine back_s sw24 sw34 ?_; (repeat' (first | exact Below.refl _ _ | assumption | refine below_new ?_ _ | refine Below.drew ?_ | refine below_drewN ?_ _ | refine below_then ?_ (by assumption)))))
            (first | (go_at_call 22; refine (texts_n _ (PS.then_ (by first | exact hPS4 | exact hps4 | exact hqs4) (by (repeat' (first | exact Below.refl _ _ | assumption | refine below_new ?_ _ | refine Below.drew ?_ | refine below_drewN ?_ _ | refine below_then ?_ (by assumption))))) (by omega)).mono ?_; rintro e w5 ⟨A5, c5, rfl, hTS, hbl⟩) | (go_at_call 27; refine (same_any _ (TS.then_ (by assumption) (by (repeat' (first | exact Below.refl _ _ | assumption | refine below_new ?_ _ | refine Below.drew ?_ | refine below_drewN ?_ _ | refine below_then ?_ (by assumption))))) (TS.then_ (by assumption) (by (repeat' (first | exact Below.refl _ _ | assumption | refine below_new ?_ _ | refine Below.drew ?_ | refine below_drewN ?_ _ | refine below_then ?_ (by assumption)))))).mono ?_; rintro e w5 ⟨rfl, q5, rfl⟩; (first | rw [HDa.out] | rw [HD.out])))
          go_wp2_with fail
          go_ret
          refine ⟨rfl, below_then b04 ?_⟩
          (repeat' (first | exact Below.refl _ _ | assumption | refine below_new ?_ _ | refine Below.drew ?_ | refine below_drewN ?_ _ | refine below_then ?_ (by assumption)))
theorem back_all {A A2 : Option Addr} {n c n2 c2 : Nat} {ps qs : List Part} (w : World) (hps : PS w w.heap.size A n c ps) (hqs : PS w w.heap.size A2 n2 c2 qs) :
    Calls Try.prog 10 #[.slice A n c, .slice A2 n2 c2] w fun e w' => e = .returned (.bool true) ∧ Below w.heap.size w w' := by
  by_cases h : n < 2 ∨ n2 < 2 ∨ 20 < n ∨ 20 < n2
  · exact back_out w hps hqs h
  · exact back_in w hps hqs (by omega) (by omega) (by omega) (by omega)
end Go.Proofs.Ytapekipfkghdhaa
