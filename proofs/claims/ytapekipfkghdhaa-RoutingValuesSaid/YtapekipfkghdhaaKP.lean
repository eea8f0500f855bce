/- RoutingValues: the walk. No condition. -/
import Derived.Test.YtapekipfkghdhaaKO
namespace Go.Proofs.Ytapekipfkghdhaa
open Go.RowKit
def mkV (p : Part) : Val := ⟨2, p⟩
theorem ok_mk {ps : List Part} {z : Nat} (h : z < ps.length) : okAt (ps.map mkV) z = true ∧ ((ps.map mkV).getD z default).p.l = ps[z].l := by
  have hg : (ps.map mkV).getD z default = mkV ps[z] := by simp [List.getD, h]
  refine ⟨?_, by rw [hg]; rfl⟩
  unfold okAt
  rw [hg]
  simp [mkV, h]
set_option maxRecDepth 20000 in
theorem values_out {A A2 : Option Addr} {n c n2 c2 : Nat} {zs : List Nat} {ps : List Part} (w : World) (hzs : US w w.heap.size A n c zs) (hps : PS w w.heap.size A2 n2 c2 ps) (hn : n < 2 ∨ 20 < n ∨ n2 = 0 ∨ 20 < n2) :
    Calls Try.prog 13 #[.slice A n c, .slice A2 n2 c2] w fun e w' => e = .returned (.bool true) ∧ Below w.heap.size w w' := by
  have hm := Nat.le_trans hzs.cap hzs.max
  have hm2 := Nat.le_trans hps.cap hps.max
  unfold maxLen at hm hm2
  by_cases h1 : n < 2
  · go_enter Try.func13, Try.ntmps13
    go_wp2_with fail
    refine (awake12 _).mono ?_
    rintro e w1 ⟨rfl, hb1⟩
    go_wp2_with fail
    go_ret
    exact ⟨rfl, hb1⟩
  · by_cases h3 : 20 < n
    · go_enter Try.func13, Try.ntmps13
      go_wp2_with fail
      refine (awake12 _).mono ?_
      rintro e w1 ⟨rfl, hb1⟩
      go_wp2_with fail
      go_ret
      exact ⟨rfl, hb1⟩
    · by_cases h2 : n2 = 0
      · subst h2
        go_enter Try.func13, Try.ntmps13
        go_wp2_with fail
        refine (awake12 _).mono ?_
        rintro e w1 ⟨rfl, hb1⟩
        go_wp2_with fail
        go_ret
        exact ⟨rfl, hb1⟩
      · have h4 : 20 < n2 := by omega
        have z0 : ((n2 : Int) == 0) = false := beq_eq_false_iff_ne.2 (by omega)
        go_enter Try.func13, Try.ntmps13
        go_wp2_with fail
        refine (awake12 _).mono ?_
        rintro e w1 ⟨rfl, hb1⟩
        go_wp2_with fail
        go_ret
        exact ⟨rfl, hb1⟩
set_option maxRecDepth 20000 in
set_option maxHeartbeats 1600000 in
theorem values_in {A A2 : Option Addr} {n c n2 c2 : Nat} {zs : List Nat} {ps : List Part} (w : World) (hzs : US w w.heap.size A n c zs) (hps : PS w w.heap.size A2 n2 c2 ps) (hn : 2 ≤ n) (hn20 : n ≤ 20) (hm : 0 < n2) (hm20 : n2 ≤ 20) :
    Calls Try.prog 13 #[.slice A n c, .slice A2 n2 c2] w fun e w' => e = .returned (.bool true) ∧ Below w.heap.size w w' := by
  have hpl := hps.len
  have hzl := hzs.len
  have z0 : ((n2 : Int) == 0) = false := beq_eq_false_iff_ne.2 (by omega)
  obtain ⟨g, o, rfl, hg, hcz⟩ := hzs.at_ (by omega)
  obtain ⟨g2, o2, rfl, hg2, hq⟩ := hps.at_ (by omega)
  go_enter Try.func13, Try.ntmps13
  go_wp2_with fail
  refine (awake12 _).mono ?_
  rintro e w1 ⟨rfl, hb1⟩
  go_wp2_with fail
  go_loopw [6, 7] (fun v i wr => ∃ k : Nat, k ≤ n2 ∧ i = .int .i64 k ∧ Hid (∀ p ∈ ps.take k, p.n ≤ 500) ∧ VX wr w1.heap.size v ((ps.take k).map mkV) ∧ Below w1.heap.size w1 wr) (fun _ i _ => n2 - (intOf i).toNat)
  case atStart => exact ⟨0, Nat.zero_le _, rfl, Lib.hid (fun p h => by simp at h), World.ownsRow_nil _ _ _ _, Below.refl _ _⟩
  case round =>
    obtain ⟨k, hk, rfl, hall, hVX, hb⟩ := hrel
    by_cases hlt : k < n2
    · have hkp : k < ps.length := by omega
      have hck := (hq.below (below_then hb1 hb) hg2).cell k hkp
      have hbk := (hq.below (below_then hb1 hb) hg2).bs k hkp
      have htk : ps.take (k + 1) = ps.take k ++ [ps[k]] := List.take_succ_eq_append_getElem hkp
      obtain ⟨p, hpk⟩ : ∃ p, ps[k] = p := ⟨_, rfl⟩
      rw [hpk] at hck hbk htk
      have hm1 := Nat.le_trans hbk.cap hbk.max
      unfold maxLen at hm1
      by_cases h3 : 500 < p.n
      · clear htk
        go_wp2_with fail
        go_ret
        exact ⟨rfl, below_then hb1 hb⟩
      · have HALL := Lib.hid (show ∀ q ∈ ps.take (k + 1), q.n ≤ 500 by
          rw [htk]
          intro q hq
          rcases List.mem_append.1 hq with hq | hq
          · exact hall.out q hq
          · simp at hq; subst hq; omega)
        have HTK := Lib.hid (show (ps.take (k + 1)).map mkV = (ps.take k).map mkV ++ [mkV p] by rw [htk, List.map_append]; rfl)
        have hba : Below wr.heap.size wr (wr.alloc (.cells #[.int .i64 2, .slice p.A p.n p.c] 54)) := below_new (Below.refl _ _) _
        have hVa : VX (wr.alloc (.cells #[.int .i64 2, .slice p.A p.n p.c] 54)) w1.heap.size _ ((ps.take k).map mkV) := own_below hVX hba
        obtain ⟨v8, w8, hrun, hV8, hg8⟩ := hVa.run_snoc (mkV p) (g := wr.heap.size) (Row.new wr _ _) (below_then hb hba).size (by rw [List.length_map, List.length_take]; omega) 51
        have hob := fun q hq => (hVX.lt q hq).1
        clear htk hall hm1 hVa hpk
        go_wp2_with (at_builtin; refine Lib.wpList_append_run _ rfl _ _ _ _ rfl _ _ rfl rfl _ _ hrun ?_)
        exact ⟨⟨k + 1, by omega, by go_num, HALL, by rw [HTK.out]; exact hV8, (below_then hb hba).grown hg8 (below_then hb hba).size hob⟩, by simp [intOf]; omega⟩
    · obtain rfl : k = n2 := by omega
      have hallp := hall.out
      rw [List.take_of_length_le (by omega)] at hallp hVX
      have HALLP := Lib.hid hallp
      clear hallp hall
      have hpsr := hps.then_ (below_then hb1 hb)
      have hbsr : ∀ x ∈ ps.map mkV, SW wr x.p.A x.p.n x.p.c x.p.l := by
        intro x hx
        obtain ⟨p, hp, rfl⟩ := List.mem_map.1 hx
        exact hpsr.part p hp
      have hkr : ∀ x ∈ ps.map mkV, -9223372036854775808 ≤ x.kind ∧ x.kind ≤ 9223372036854775807 := by
        intro x hx
        obtain ⟨p, _, rfl⟩ := List.mem_map.1 hx
        simp [mkV]
      have hvl : (ps.map mkV).length = k := by rw [List.length_map, hpl]
      obtain ⟨A6, c6, rfl, _⟩ := hVX.form hkr hbsr
      rw [hvl] at hVX ⊢
      clear hvl hbsr hpsr
      have HKR := Lib.hid hkr
      clear hkr
      go_wp2_with fail
      go_loopw [8, 9] (fun v i wx => ∃ j : Nat, j ≤ n ∧ i = .int .i64 j ∧ UX wx w1.heap.size v ((zs.take j).map (· % k)) ∧ VX wx w1.heap.size (.slice A6 k c6) (ps.map mkV) ∧ Below w1.heap.size w1 wx) (fun _ i _ => n - (intOf i).toNat)
      case atStart => exact ⟨0, Nat.zero_le _, rfl, World.ownsRow_nil _ _ _ _, hVX, hb⟩
      case round =>
        obtain ⟨j, hj, rfl, hUX, hVX2, hb2⟩ := hrel
        by_cases hlt2 : j < n
        · have hjz : j < zs.length := by omega
          have hcj := ((below_then hb1 hb2).cell (p := ⟨g, o + j, none⟩) hg).trans (hcz j hjz)
          have hzr := hzs.rng zs[j] (List.getElem_mem hjz)
          have htk : zs.take (j + 1) = zs.take j ++ [zs[j]] := List.take_succ_eq_append_getElem hjz
          obtain ⟨z, hz⟩ : ∃ z, zs[j] = z := ⟨_, rfl⟩
          rw [hz] at hcj hzr htk
          have HTK := Lib.hid (show (zs.take (j + 1)).map (· % k) = (zs.take j).map (· % k) ++ [z % k] by rw [htk, List.map_append]; rfl)
          have hba : Below wr.heap.size wr (wr.alloc (.cells #[.int .u16 ((z : Int) % (k : Int))] 31)) := below_new (Below.refl _ _) _
          have hUa : UX (wr.alloc (.cells #[.int .u16 ((z : Int) % (k : Int))] 31)) w1.heap.size _ ((zs.take j).map (· % k)) := own_below hUX hba
          obtain ⟨v8, w8, hrun, hU8, hg8⟩ := hUa.run_snoc (z % k) (g := wr.heap.size) (by rw [(Row.new wr _ _).cell, Int.natCast_emod]; rfl) (below_then hb2 hba).size (by rw [List.length_map, List.length_take]; omega) 50
          have hob := fun q hq => (hUX.lt q hq).1
          have hV8 : VX w8 w1.heap.size (.slice A6 k c6) (ps.map mkV) := own_block (own_below hVX2 hba) fun q _ _ ⟨cs, f, hc⟩ => grown_typed hUa hg8 hc (by decide)
          have hkn : (k : Int) ≠ 0 := by omega
          clear htk hz hUa
          go_wp2_with (at_builtin; refine Lib.wpList_append_run _ rfl _ _ _ _ rfl _ _ rfl rfl _ _ hrun ?_)
          exact ⟨⟨j + 1, by omega, by go_num, by rw [HTK.out]; exact hU8, hV8, (below_then hb2 hba).grown hg8 (below_then hb2 hba).size hob⟩, by simp [intOf]; omega⟩
        · obtain rfl : j = n := by omega
          rw [List.take_of_length_le (by omega)] at hUX
          obtain ⟨Z, hZ⟩ : ∃ Z, zs.map (· % k) = Z := ⟨_, rfl⟩
          rw [hZ] at hUX
          have hZl : Z.length = j := by rw [← hZ, List.length_map, hzl]
          have hZk : ∀ z ∈ Z, z < k := by
            intro z hz
            rw [← hZ] at hz
            obtain ⟨u, _, rfl⟩ := List.mem_map.1 hz
            exact Nat.mod_lt _ hm
          clear hZ
          have hallp := HALLP.out
          have hpsr := hps.then_ (below_then hb1 hb2)
          have hbsr : ∀ x ∈ ps.map mkV, SW wr x.p.A x.p.n x.p.c x.p.l := by
            intro x hx
            obtain ⟨p, hp, rfl⟩ := List.mem_map.1 hx
            exact hpsr.part p hp
          obtain ⟨A6', c6', e6, hVS⟩ := hVX2.form HKR.out hbsr
          have hvl : (ps.map mkV).length = k := by rw [List.length_map, hpl]
          rw [hvl] at e6 hVS
          injection e6 with e7 _ e8
          subst e7
          subst e8
          obtain ⟨A8, c8, rfl, hUS⟩ := hUX.form (fun z hz => by have := hZk z hz; omega)
          rw [hZl] at hUS ⊢
          have hok : Z.all (okAt (ps.map mkV)) = true := by
            rw [List.all_eq_true]
            intro z hz
            exact (ok_mk (by rw [hpl]; exact hZk z hz)).1
          have hpk := pick_any _ hUS hVS (by omega) (fun x hx => by
            obtain ⟨p, hp, rfl⟩ := List.mem_map.1 hx
            have := hallp p hp
            show p.n ≤ _
            omega)
          rw [if_pos hok, if_pos hok] at hpk
          have hPL : ∀ i (hi : i < Z.length) p, ps[Z[i]]? = some p → (pickL (ps.map mkV) Z)[i]? = some p.l := by
            intro i hi p hp
            have hx : Z[i] < ps.length := by rw [hpl]; exact hZk _ (List.getElem_mem hi)
            rw [List.getElem?_eq_getElem hx] at hp
            have hp := Option.some.inj hp
            subst hp
            unfold pickL
            rw [List.getElem?_map, List.getElem?_eq_getElem hi]
            exact congrArg some (ok_mk hx).2
          have hPN : ∀ u ∈ pickL (ps.map mkV) Z, u.length ≤ 500 := by
            intro u hu
            obtain ⟨i, hi, rfl⟩ := List.mem_iff_getElem.1 hu
            have hi2 : i < Z.length := by unfold pickL at hi; rwa [List.length_map] at hi
            have hx : Z[i] < ps.length := by rw [hpl]; exact hZk _ (List.getElem_mem hi2)
            have h1 := hPL i hi2 _ (List.getElem?_eq_getElem hx)
            rw [List.getElem?_eq_getElem hi] at h1
            have h2 := Option.some.inj h1
            rw [h2, (hps.part _ (List.getElem_mem _)).len]
            exact hallp _ (List.getElem_mem _)
          have hPLl : (pickL (ps.map mkV) Z).length = j := by unfold pickL; rw [List.length_map, hZl]
          obtain ⟨PL, hPLe⟩ : ∃ PL, pickL (ps.map mkV) Z = PL := ⟨_, rfl⟩
          rw [hPLe] at hpk hPL hPN hPLl
          have HPK := Lib.hid hpk
          have HPL := Lib.hid hPL
          have HPN := Lib.hid hPN
          have HPLl := Lib.hid hPLl
          have HZK := Lib.hid hZk
          clear hpk hPL hPN hPLl hok hvl hbsr hPLe hVX2 hUX hZk hallp
          go_wp2_with fail
          refine HPK.out.mono ?_
          rintro e w3 ⟨v3, ps3, rfl, hPO3, hm3, hb3⟩
          have hl3 : ps3.length = j := by
            have := congrArg List.length hm3
            rw [List.length_map] at this
            rw [this]; exact HPLl.out
          obtain ⟨A9, c9, rfl, hPS3⟩ := hPO3.pt.form
          rw [hl3] at hPS3 ⊢
          have hf3 : ∀ p ∈ ps3, p.l.length = p.n ∧ p.n ≤ 500 := fun p hp => by
            have h1 := BS.len (hPO3.pt.bs p hp)
            have h2 := HPN.out p.l (by rw [← hm3]; exact List.mem_map.2 ⟨p, hp, rfl⟩)
            exact ⟨h1, by omega⟩
          have hKB := keyB_ok (ps := ps3) (fun p hp => by have := (hf3 p hp).2; omega) (by omega)
          have hKE := keyE_ok (ps := ps3) (fun p hp => by have := (hf3 p hp).2; omega) (by omega)
          have hkey := key_any _ hPS3 (by omega) (fun i hi => by have := (hf3 _ (List.getElem_mem hi)).2; omega)
          rw [hKB, hKE] at hkey
          have hKL := keyL_len (ps := ps3) (fun p hp => by have := hf3 p hp; omega)
          have hback : ∀ N, (keyL ps3).length = N → prt (N + 1) (keyL ps3) = (PL, 0) := fun N hN => by
            rw [prt_back (fun p hp => ⟨(hf3 p hp).1, by have := (hf3 p hp).2; omega⟩) hN, hm3]
          obtain ⟨K, hK⟩ : ∃ K, keyL ps3 = K := ⟨_, rfl⟩
          rw [hK] at hkey hback hKL
          have HKEY := Lib.hid hkey
          have HBACK := Lib.hid hback
          have HKL := Lib.hid hKL
          clear hkey hback hKL hK hKB hKE hf3 hm3
          go_wp2_with fail
          refine HKEY.out.mono ?_
          rintro e w4 ⟨v4, N4, rfl, hown4, hb4⟩
          have hN4 := own_len hown4
          obtain ⟨A10, c10, rfl, sw4⟩ := SW.of_own hown4
          have hN4b : N4 ≤ 1099511627776 := by have := HKL.out; omega
          have hbk := HBACK.out N4 hN4
          have HBK := Lib.hid hbk
          clear hbk hN4 hown4
          go_wp2_with fail
          refine (parts_any _ sw4 hN4b).mono ?_
          rintro e w5 ⟨v5, ps5, rfl, hPT5, hm5, hb5⟩
          rw [HBK.out] at hm5 ⊢
          obtain ⟨A11, c11, rfl, hPS5⟩ := hPT5.form
          have hl5 : ps5.length = j := by
            have := congrArg List.length hm5
            rw [List.length_map] at this
            rw [this]; exact HPLl.out
          rw [hl5] at hPS5 ⊢
          have b25 := below_then hb3 (below_then hb4 hb5)
          have b05 := below_then hb1 (below_then hb2 b25)
          have hUS5 := hUS.then_ b25
          have HM5 := Lib.hid hm5
          clear hm5 hPT5 hPS3 hPO3 hVS hl3
          obtain ⟨g5, o5, rfl, _, hq5⟩ := hPS5.at_ (by omega)
          obtain ⟨g8, o8, rfl, _, hq8⟩ := hUS5.at_ (by omega)
          go_wp2_with fail
          go_loopw [16] (fun i wx => ∃ (i2 q : Nat), i2 ≤ j ∧ i = .int .i64 i2 ∧ wx = w5.drewN q) (fun i _ => j - (intOf i).toNat)
          case atStart => exact ⟨0, 0, Nat.zero_le _, rfl, rfl⟩
          case round =>
            obtain ⟨i2, q, hi2, rfl, rfl⟩ := hrel
            by_cases hlt3 : i2 < j
            · have h1 : i2 < ps5.length := by omega
              have h2 : i2 < Z.length := by omega
              have d1 := hq5.cell i2 h1
              have e1 := hq5.bs i2 h1
              have d2 := hq8 i2 h2
              have hzk := HZK.out Z[i2] (List.getElem_mem h2)
              have h3 : Z[i2] < ps.length := by omega
              have hpe := HPL.out i2 h2 _ (List.getElem?_eq_getElem h3)
              rw [← HM5.out, List.getElem?_map, List.getElem?_eq_getElem h1] at hpe
              have hpe2 := Option.some.inj hpe
              have d3 := (hq.below b05 hg2).cell Z[i2] h3
              have e3 := (hq.below b05 hg2).bs Z[i2] h3
              obtain ⟨p5, hp5⟩ : ∃ p, ps5[i2] = p := ⟨_, rfl⟩
              obtain ⟨p3, hp3⟩ : ∃ p, ps[Z[i2]] = p := ⟨_, rfl⟩
              rw [hp5] at d1 e1 hpe2
              rw [hp3] at d3 e3 hpe2
              obtain ⟨z, hz⟩ : ∃ z, Z[i2] = z := ⟨_, rfl⟩
              rw [hz] at d2 d3 hzk
              obtain ⟨A20, n20, c20, l20⟩ := p5
              obtain ⟨A21, n21, c21, l21⟩ := p3
              simp only at d1 e1 d3 e3 hpe2
              subst hpe2
              have s1 := str_drawn e1
              have s2 := str_drawn e3
              clear hz hp3 hp5 hpe h3 hq8 hcz
              go_wp2_with fail
              go_quiet (fail)
              go_wp2_with fail
              exact ⟨⟨i2 + 1, q + nq, by omega, by go_num, by simp [World.drewN]⟩, by simp [intOf]; omega⟩
            · obtain rfl : i2 = j := by omega
              go_wp2_with fail
              go_ret
              exact ⟨rfl, below_drewN b05 _⟩
theorem values_all {A A2 : Option Addr} {n c n2 c2 : Nat} {zs : List Nat} {ps : List Part} (w : World) (hzs : US w w.heap.size A n c zs) (hps : PS w w.heap.size A2 n2 c2 ps) :
    Calls Try.prog 13 #[.slice A n c, .slice A2 n2 c2] w fun e w' => e = .returned (.bool true) ∧ Below w.heap.size w w' := by
  by_cases h : n < 2 ∨ 20 < n ∨ n2 = 0 ∨ 20 < n2
  · exact values_out w hzs hps h
  · exact values_in w hzs hps (by omega) (by omega) (by omega) (by omega)
end Go.Proofs.Ytapekipfkghdhaa
