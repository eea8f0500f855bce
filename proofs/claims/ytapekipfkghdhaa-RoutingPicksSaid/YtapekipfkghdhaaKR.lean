/- RoutingPicks: the walk. No condition. -/
import Derived.Test.YtapekipfkghdhaaKQ
namespace Go.Proofs.Ytapekipfkghdhaa
open Go.RowKit
set_option maxRecDepth 20000 in
theorem picks_out {A A2 : Option Addr} {n c n2 c2 : Nat} {zs : List Nat} {vs : List Val} (w : World) (hzs : US w w.heap.size A n c zs) (hvs : VS w w.heap.size A2 n2 c2 vs) (hn : 50 < n ∨ 50 < n2) :
    Calls Try.prog 11 #[.slice A n c, .slice A2 n2 c2] w fun e w' => e = .returned (.bool true) ∧ Below w.heap.size w w' := by
  have hm := Nat.le_trans hzs.cap hzs.max
  have hm2 := Nat.le_trans hvs.cap hvs.max
  unfold maxLen at hm hm2
  by_cases h1 : 50 < n
  · go_enter Try.func11, Try.ntmps11
    go_wp2_with fail
    refine (awake12 _).mono ?_
    rintro e w1 ⟨rfl, hb1⟩
    go_wp2_with fail
    go_ret
    exact ⟨rfl, hb1⟩
  · have h4 : 50 < n2 := by omega
    go_enter Try.func11, Try.ntmps11
    go_wp2_with fail
    refine (awake12 _).mono ?_
    rintro e w1 ⟨rfl, hb1⟩
    go_wp2_with fail
    go_ret
    exact ⟨rfl, hb1⟩
set_option maxRecDepth 20000 in
set_option maxHeartbeats 1600000 in
theorem picks_bad {A A2 : Option Addr} {n c n2 c2 : Nat} {zs : List Nat} {vs : List Val} (w : World) (hzs : US w w.heap.size A n c zs) (hvs : VS w w.heap.size A2 n2 c2 vs) (hn : n ≤ 50) (hn2 : n2 ≤ 50) (hok : zs.all (okAt vs) = false) (hvn : ∀ x ∈ vs, x.p.n ≤ 140737488355328) :
    Calls Try.prog 11 #[.slice A n c, .slice A2 n2 c2] w fun e w' => e = .returned (.bool true) ∧ Below w.heap.size w w' := by
  have hzl := hzs.len
  have hvl := hvs.len
  have HOK := Lib.hid hok
  have HVN := Lib.hid hvn
  clear hok hvn
  go_enter Try.func11, Try.ntmps11
  go_wp2_with fail
  refine (awake12 _).mono ?_
  rintro e w1 ⟨rfl, hb1⟩
  go_wp2_with fail
  refine (pick_any _ (hzs.then_ hb1) (hvs.then_ hb1) (by omega) HVN.out).mono ?_
  rintro e w2 ⟨v2, ps2, rfl, hPO2, hm2, hb2⟩
  rw [HOK.out] at hm2 ⊢
  simp only [Bool.false_eq_true, if_false] at hm2 ⊢
  obtain rfl : ps2 = [] := List.map_eq_nil_iff.1 hm2
  obtain ⟨A3, c3, rfl, _⟩ := hPO2.pt.form
  simp only [List.length_nil]
  have b2 := below_then hb1 hb2
  clear hPO2 hm2
  go_wp2_with fail
  go_loop [8] (fun i => ∃ k : Nat, k ≤ n ∧ i = .int .i64 k ∧ Hid ((zs.take k).all (okAt vs) = true)) (fun i => n - (intOf i).toNat)
  case atStart => exact ⟨0, Nat.zero_le _, rfl, Lib.hid rfl⟩
  case round =>
    obtain ⟨k, hk, rfl, hall⟩ := hrel
    by_cases hlt : k < n
    · obtain ⟨g, o, rfl, hg, hcz⟩ := hzs.at_ (by omega)
      have hkz : k < zs.length := by omega
      have hck := (b2.cell (p := ⟨g, o + k, none⟩) hg).trans (hcz k hkz)
      have hzr := hzs.rng zs[k] (List.getElem_mem hkz)
      have htk : zs.take (k + 1) = zs.take k ++ [zs[k]] := List.take_succ_eq_append_getElem hkz
      obtain ⟨z, hzk⟩ : ∃ z, zs[k] = z := ⟨_, rfl⟩
      rw [hzk] at hck hzr htk
      clear hcz
      by_cases hzv : z < n2
      · obtain ⟨g2, o2, rfl, hg2, hvo⟩ := hvs.at_ (by omega)
        have hzl2 : z < vs.length := by omega
        have c0 := (hvo.below b2 hg2).kind z hzl2
        have r1 := hvs.rng _ (List.getElem_mem hzl2)
        have hget : vs.getD z default = vs[z] := by simp [List.getD, hzl2]
        obtain ⟨x, hx⟩ : ∃ x, vs[z] = x := ⟨_, rfl⟩
        rw [hx] at c0 r1 hget
        obtain ⟨K, p⟩ := x
        simp only at c0 r1
        by_cases hK : K = 2
        · subst hK
          have HALL := Lib.hid (show (zs.take (k + 1)).all (okAt vs) = true by rw [htk, List.all_append, hall.out]; simp [okAt, hzl2, hx])
          clear htk hall hx hget hvo
          go_wp2_with fail
          exact ⟨⟨k + 1, by omega, by go_num, HALL⟩, by simp [intOf]; omega⟩
        · have hKb : (K != 2) = true := by simpa using hK
          have hKc : (K == 2) = false := by simpa using hK
          clear htk hall hx hget hvo
          go_wp2_with fail
          go_ret
          exact ⟨rfl, b2⟩
      · clear htk hall
        go_wp2_with fail
        go_ret
        exact ⟨rfl, b2⟩
    · obtain rfl : k = n := by omega
      have h1 := hall.out
      rw [List.take_of_length_le (by omega), HOK.out] at h1
      cases h1
/-- A part's row of its own, as the flips find it. -/
theorem part_row {w : World} {base n : Nat} {p : Part} (h : w.ownsRow base 5 1 p.v p.n (bv p.l)) (hn : 0 < p.n) (hpn : p.n = n) : ∃ g cap cur, p = ⟨some ⟨g, 0, none⟩, n, cap, p.l⟩ ∧ base ≤ g ∧ g < w.heap.size ∧ Row w g 5 cur ∧ n ≤ cur.size ∧ n ≤ cap ∧ cap ≤ maxLen ∧ ∀ j, j < n → ∃ x : Int, cur[j]? = some (.int .u8 x) ∧ 0 ≤ x ∧ x < 256 := by
  subst hpn
  rcases h.2 with ⟨hv, h0⟩ | ⟨g, cap, cur, hv, hbg, hk, hnc, hcm, hsz, htk⟩
  · omega
  · obtain ⟨A, n, c, l⟩ := p
    simp only [Part.v] at hv ⊢
    injection hv with e1 _ e3
    subst e1
    subst e3
    refine ⟨g, c, cur, rfl, hbg, (Array.getElem?_eq_some_iff.1 hk).1, hk, ?_, hnc, hcm, fun j hj => ?_⟩
    · simp only at hsz hnc ⊢
      omega
    · have hl := h.1
      rw [bv_len] at hl
      simp only at hl htk
      have h2 := congrArg (fun x => x[j]?) htk
      simp only [Nat.mul_one, List.getElem?_take, Array.getElem?_toList] at h2
      rw [if_pos hj, bv_at l j (by omega)] at h2
      exact ⟨_, h2, Int.natCast_nonneg _, by have := l[j].toNat_lt; omega⟩
theorem pt_row {w : World} {base n c : Nat} {A : Option Addr} {ps : List Part} (h : PT w base (.slice A n c) ps) (hn : 0 < ps.length) : ∃ g cs, A = some ⟨g, 0, none⟩ ∧ Row w g 22 cs ∧ ∀ j (hj : j < ps.length), cs[j]? = some ps[j].v := by
  rcases h.row.2 with ⟨_, h0⟩ | ⟨g, cap, cur, hv, hbg, hk, hnc, hcm, hsz, htk⟩
  · omega
  · injection hv with e1 _ _
    refine ⟨g, cur, e1, hk, fun j hj => ?_⟩
    have h2 := congrArg (fun x => x[j]?) htk
    simp only [Nat.mul_one, List.getElem?_take, List.getElem?_map, Array.getElem?_toList] at h2
    rw [if_pos hj, List.getElem?_eq_getElem hj] at h2
    exact h2
theorem keep_cell' {w w' : World} {g i : Nat} {v : Value} (h : w.cell? ⟨g, i, none⟩ = some v) (hg : g < w.heap.size) (hb : Below w.heap.size w w') : w'.cell? ⟨g, i, none⟩ = some v := (hb.cell (p := ⟨g, i, none⟩) hg).trans h
theorem grown_trans {w w1 w2 : World} {p : Nat} (h : w.grownBy w1 (some p)) (h2 : w1.grownBy w2 (some p)) : w.grownBy w2 (some p) :=
  ⟨h2.os.trans h.os, h2.tape.trans h.tape, h2.output.trans h.output, Nat.le_trans h.size h2.size, fun k hk hne => (h2.block k (Nat.lt_of_lt_of_le hk h.size) hne).trans (h.block k hk hne)⟩
theorem grown_drew {w w1 : World} {p : Option Nat} (h : w.grownBy w1 p) : w.grownBy w1.drew p := ⟨h.os, h.tape, h.output, h.size, h.block⟩
theorem part_kept {w w' : World} {base g : Nat} {q : Part} (h : w.ownsRow base 5 1 q.v q.n (bv q.l)) (hg : w.grownBy w' (some g)) (hne : ∀ b, q.A = some b → b.block ≠ g) : w'.ownsRow base 5 1 q.v q.n (bv q.l) := by
  refine h.kept hg ?_
  rcases h.2 with ⟨e, _⟩ | ⟨k, cap, cur, e, _⟩
  · exact .inl (by rw [e]; rfl)
  · refine .inr (fun x => ?_)
    rw [e] at x
    simp only [Value.ownBlock, Option.some.injEq] at x
    unfold Part.v at e
    injection e with e1 _ _
    exact hne _ e1 (by first | exact x | exact x.symm)
theorem xor_rng : ∀ n : Fin 256, decide (0 ≤ bits .xor .u8 (n.val : Int) 255 ∧ bits .xor .u8 (n.val : Int) 255 < 256) = true := by decide +kernel
set_option maxRecDepth 20000 in
set_option maxHeartbeats 1600000 in
theorem picks_good {A A2 : Option Addr} {n c n2 c2 : Nat} {zs : List Nat} {vs : List Val} (w : World) (hzs : US w w.heap.size A n c zs) (hvs : VS w w.heap.size A2 n2 c2 vs) (hn : n ≤ 50) (hn2 : n2 ≤ 50) (hok : zs.all (okAt vs) = true) (hvn : ∀ x ∈ vs, x.p.n ≤ 140737488355328) :
    Calls Try.prog 11 #[.slice A n c, .slice A2 n2 c2] w fun e w' => e = .returned (.bool true) ∧ Below w.heap.size w w' := by
  have hzl := hzs.len
  have hvl := hvs.len
  have hokz : ∀ z ∈ zs, ∃ h : z < vs.length, vs[z].kind = 2 := by
    intro z hz
    have := (List.all_eq_true.1 hok) z hz
    unfold okAt at this
    simp only [Bool.and_eq_true, decide_eq_true_eq] at this
    refine ⟨this.1, ?_⟩
    have h2 := this.2
    simpa [List.getD, this.1] using h2
  have HOKZ := Lib.hid hokz
  have HOK := Lib.hid hok
  have HVN := Lib.hid hvn
  clear hok hvn hokz
  go_enter Try.func11, Try.ntmps11
  go_wp2_with fail
  refine (awake12 _).mono ?_
  rintro e w1 ⟨rfl, hb1⟩
  go_wp2_with fail
  refine (pick_any _ (hzs.then_ hb1) (hvs.then_ hb1) (by omega) HVN.out).mono ?_
  rintro e w2 ⟨v2, ps2, rfl, hPO2, hm2, hb2⟩
  rw [HOK.out] at hm2 ⊢
  simp only [if_true] at hm2 ⊢
  have hl2 : ps2.length = n := by
    have := congrArg List.length hm2
    rw [List.length_map] at this
    rw [this]
    unfold pickL
    rw [List.length_map, hzl]
  obtain ⟨A3, c3, rfl, hPS2⟩ := hPO2.pt.form
  rw [hl2] at hPS2 ⊢
  have b2 := below_then hb1 hb2
  have HM2 := Lib.hid hm2
  clear hm2
  go_wp2_with fail
  go_loop [8] (fun i => ∃ k : Nat, k ≤ n ∧ i = .int .i64 k) (fun i => n - (intOf i).toNat)
  case atStart => exact ⟨0, Nat.zero_le _, rfl⟩
  case round =>
    obtain ⟨k, hk, rfl⟩ := hrel
    by_cases hlt : k < n
    · obtain ⟨g, o, rfl, hg, hcz⟩ := hzs.at_ (by omega)
      have hkz : k < zs.length := by omega
      have hck := (b2.cell (p := ⟨g, o + k, none⟩) hg).trans (hcz k hkz)
      obtain ⟨hzv, hk2⟩ := HOKZ.out zs[k] (List.getElem_mem hkz)
      obtain ⟨g2, o2, rfl, hg2, hvo⟩ := hvs.at_ (by omega)
      have c0 := (hvo.below b2 hg2).kind _ hzv
      rw [hk2] at c0
      obtain ⟨z, hzk⟩ : ∃ z, zs[k] = z := ⟨_, rfl⟩
      rw [hzk] at hck c0
      have hzn : z < n2 := by rw [← hzk]; omega
      clear hk2 hzv hzk hcz hvo
      go_wp2_with fail
      exact ⟨⟨k + 1, by omega, by go_num⟩, by simp [intOf]; omega⟩
    · obtain rfl : k = n := by omega
      go_wp2_with fail
      go_loopw [9] (fun i wr => ∃ i2 : Nat, i2 ≤ k ∧ i = .int .i64 i2 ∧ (∀ j (h : j < ps2.length), i2 ≤ j → wr.ownsRow w1.heap.size 5 1 ps2[j].v ps2[j].n (bv ps2[j].l)) ∧ (∀ (g : Nat) (cs : Array Value) (t : TypeId), t ≠ 5 → Row w2 g t cs → Row wr g t cs) ∧ Below w1.heap.size w1 wr ∧ w2.heap.size ≤ wr.heap.size) (fun i _ => k - (intOf i).toNat)
      case atStart => exact ⟨0, Nat.zero_le _, rfl, fun j h _ => hPO2.own _ (List.getElem_mem h), fun _ _ _ _ h => h, hb2, Nat.le_refl _⟩
      case round =>
        obtain ⟨i2, hi2, rfl, howns, hkeep, hbr, hsr⟩ := hrel
        by_cases hlt2 : i2 < k
        · obtain ⟨g3, cs3, rfl, hrow3, hcs3⟩ := pt_row hPO2.pt (by omega)
          have hi2p : i2 < ps2.length := by omega
          have hr3 := hkeep g3 cs3 22 (by decide) hrow3
          have d3 : wr.cell? ⟨g3, i2, none⟩ = some ps2[i2].v := by rw [hr3.cell]; exact hcs3 i2 hi2p
          have hown := howns i2 hi2p (Nat.le_refl _)
          obtain ⟨g, o, rfl, hg, hcz⟩ := hzs.at_ (by omega)
          have hkz : i2 < zs.length := by omega
          have bwr := below_then hb1 hbr
          have hck := (bwr.cell (p := ⟨g, o + i2, none⟩) hg).trans (hcz i2 hkz)
          obtain ⟨hzv, hk2⟩ := HOKZ.out zs[i2] (List.getElem_mem hkz)
          obtain ⟨g2, o2, rfl, hg2, hvo⟩ := hvs.at_ (by omega)
          have c0 := (hvo.below bwr hg2).kind _ hzv
          have cc1 := (hvo.below bwr hg2).cell _ hzv
          have cb := (hvo.below bwr hg2).bs _ hzv
          have hl1 : ps2[i2].l = vs[zs[i2]].p.l := by
            have h1 := congrArg (fun x => x[i2]?) HM2.out
            unfold pickL at h1
            simp only [List.getElem?_map] at h1
            rw [List.getElem?_eq_getElem hi2p, List.getElem?_eq_getElem hkz] at h1
            have h2 : ps2[i2].l = (vs.getD zs[i2] default).p.l := Option.some.inj h1
            rw [h2]
            simp [List.getD, hzv]
          rw [hk2] at c0
          obtain ⟨z, hzk⟩ : ∃ z, zs[i2] = z := ⟨_, rfl⟩
          have hzn : z < n2 := by rw [← hzk]; omega
          obtain ⟨V, hV⟩ : ∃ V, vs[zs[i2]] = V := ⟨_, rfl⟩
          rw [hV] at cc1 cb hl1
          rw [hzk] at hck c0 cc1
          obtain ⟨K, ⟨A1, m1, d1, l1⟩⟩ := V
          have hap : ∀ j (h : j < ps2.length), i2 < j → ∀ a b, ps2[i2].A = some a → ps2[j].A = some b → a.block ≠ b.block := fun j h hj => (List.pairwise_iff_getElem.1 hPO2.apart) i2 j hi2p h hj
          obtain ⟨p, hp⟩ : ∃ p, ps2[i2] = p := ⟨_, rfl⟩
          rw [hp] at d3 hown hl1 hap
          have hpl := own_len hown
          rw [hl1] at hpl hown
          have hm1 : l1.length = m1 := cb.len
          have hpn : p.n = m1 := by rw [← hpl]; exact hm1
          simp only [Part.v] at cc1
          simp only at cb
          obtain ⟨w3, hw3⟩ : ∃ w3, wr.alloc (.cells #[.int .i64 2, .slice A1 m1 d1] 54) = w3 := ⟨_, rfl⟩
          have b3 : Below wr.heap.size wr w3 := by rw [← hw3]; exact below_new (Below.refl _ _) _
          have hq3 : Row w3 wr.heap.size 54 #[.int .i64 2, .slice A1 m1 d1] := by rw [← hw3]; exact Row.new _ _ _
          have hs3 : w3.heap.size = wr.heap.size + 1 := by rw [← hw3]; simp
          have cb3 : SW w3 A1 m1 d1 l1 := BS.more (cb.below (b3.mono bwr.size)) (Nat.le_trans bwr.size b3.size)
          have s1 := str_now cb3
          clear hcz hvo hzk hV hk2 hzv hcs3 hp hm1
          by_cases hm0 : m1 = 0
          · subst hm0
            obtain ⟨Ap, np, cp, lp⟩ := p
            simp only at hpn
            subst hpn
            simp only [Part.v] at d3 hown
            have d33 : w3.cell? ⟨g3, i2, none⟩ = some (.slice Ap 0 cp) := keep_cell' d3 hr3.lt b3
            obtain ⟨Ax, cx, ex, sw3⟩ := SW.of_own (own_below hown b3)
            injection ex with ex1 _ ex3
            subst ex1
            subst ex3
            have s2 := str_now sw3
            have q1 : w3.cell? ⟨wr.heap.size, 1, none⟩ = some (.slice A1 0 d1) := hq3.cell 1
            go_wp2_with fail
            go_loopw [12] (fun i wx => i = .int .i64 0 ∧ wx = w3) (fun _ _ => 0)
            case atStart => exact ⟨rfl, rfl⟩
            case round =>
              obtain ⟨rfl, rfl⟩ := hrel
              go_wp2_with fail
              exact ⟨⟨i2 + 1, by omega, by go_num, fun j h hj => own_below (howns j h (by omega)) b3, fun g cs t ht h => (hkeep g cs t ht h).below b3 (hkeep g cs t ht h).lt, below_then hbr b3, Nat.le_trans hsr b3.size⟩, by simp [intOf]; omega⟩
          · have hrp := part_row (p := p) (by rw [hpn, hl1]; rw [hpn] at hown; exact hown) (by omega) hpn
            obtain ⟨gp, cap, cur0, hpe, hbp, hgp, hrowp, hsz0, hcap1, hcap2, hcur0⟩ := hrp
            obtain ⟨Ap, np, cp, lp⟩ := p
            injection hpe with e1 e2 e3 e4
            subst e1
            subst e2
            subst e3
            simp only [Part.v] at d3 hown
            unfold maxLen at hcap2
            have hne3 : g3 ≠ gp := fun e => by
              subst e
              have h1 := hr3
              have h2 := hrowp
              unfold Row at h1 h2
              rw [h1] at h2
              simp at h2
            have hneq : wr.heap.size ≠ gp := by omega
            have hrw3 := hrowp.below b3 hgp
            have hr33 := hr3.below b3 hr3.lt
            have hd3 : ∀ {wx : World}, w3.grownBy wx (some gp) → wx.cell? ⟨g3, i2, none⟩ = some (.slice (some ⟨gp, 0, none⟩) np cp) := fun hg => by
              have h1 := hr33.grown hg (fun e => hne3 (Option.some.inj e))
              have h2 : w3.cell? ⟨g3, i2, none⟩ = some (.slice (some ⟨gp, 0, none⟩) np cp) := keep_cell' d3 hr3.lt b3
              rw [h1.cell, ← hr33.cell]
              exact h2
            have hq1 : ∀ {wx : World}, w3.grownBy wx (some gp) → wx.cell? ⟨wr.heap.size, 1, none⟩ = some (.slice A1 np d1) := fun hg => (hq3.grown hg (fun e => hneq (Option.some.inj e))).cell 1
            have hcb : ∀ {wx : World}, w3.grownBy wx (some gp) → BS wx w.heap.size A1 np d1 l1 := fun hg => (cb.below (b3.mono bwr.size)).grown hg (Nat.le_trans bwr.size b3.size) (fun g e => by injection e with e; have := hb1.size; omega)
            obtain ⟨Ax, cx, ex, sw3⟩ := SW.of_own (own_below hown b3)
            injection ex with ex1 _ ex3
            subst ex1
            subst ex3
            have s2 := str_now sw3
            have d33 := hd3 (wx := w3) ⟨rfl, rfl, rfl, Nat.le_refl _, fun _ _ _ => rfl⟩
            have q33 := hq1 (wx := w3) ⟨rfl, rfl, rfl, Nat.le_refl _, fun _ _ _ => rfl⟩
            go_wp2_with fail
            go_loopw [12] (fun i wx => ∃ (k2 : Nat) (cur : Array Value), k2 ≤ np ∧ i = .int .i64 k2 ∧ Row wx gp 5 cur ∧ np ≤ cur.size ∧ (∀ j, k2 ≤ j → j < np → ∃ x : Int, cur[j]? = some (.int .u8 x) ∧ 0 ≤ x ∧ x < 256) ∧ w3.grownBy wx (some gp)) (fun i _ => np - (intOf i).toNat)
            case atStart => exact ⟨0, cur0, Nat.zero_le _, rfl, hrw3, hsz0, fun j _ hj => hcur0 j hj, ⟨rfl, rfl, rfl, Nat.le_refl _, fun _ _ _ => rfl⟩⟩
            case round =>
              obtain ⟨k2, cur, hk2, rfl, hrowx, hszx, hcurx, hgx⟩ := hrel
              have dx := hd3 hgx
              have qx := hq1 hgx
              have sx := str_now (hcb hgx)
              clear d33 q33
              by_cases hlt4 : k2 < np
              · obtain ⟨x, hx, hx0, hx1⟩ := hcurx k2 (Nat.le_refl _) hlt4
                have cx2 := (hrowx.cell k2).trans hx
                have fx := hrowx.frozen k2
                obtain ⟨y, hy⟩ : ∃ y, bits .xor .u8 x 255 = y := ⟨_, rfl⟩
                have hyr : 0 ≤ y ∧ y < 256 := by
                  obtain ⟨u, rfl⟩ := Int.eq_ofNat_of_zero_le hx0
                  have := xor_rng ⟨u, by omega⟩
                  simp only [decide_eq_true_eq] at this
                  rw [← hy]
                  exact this
                go_wp2_with fail
                go_region_law (fail)
                all_goals go_wp2_with fail
                all_goals exact ⟨⟨k2 + 1, cur.setIfInBounds k2 (.int .u8 y), by omega, by go_num, (hrowx.set_ k2 _).drew, by simpa using hszx, fun j hj1 hj2 => by
                  obtain ⟨x', h1, h2⟩ := hcurx j (by omega) hj2
                  exact ⟨x', by rw [Array.getElem?_setIfInBounds_ne (by omega)]; exact h1, h2⟩, grown_drew (grown_trans hgx (set_grown _ gp k2 _))⟩, by simp [intOf]; omega⟩
              · obtain rfl : k2 = np := by omega
                go_wp2_with fail
                exact ⟨⟨i2 + 1, by omega, by go_num, fun j h hj => part_kept (own_below (howns j h (by omega)) b3) hgx (fun b hb e => hap j h (by omega) _ b rfl hb e.symm), fun g cs t ht h => ((hkeep g cs t ht h).below b3 (hkeep g cs t ht h).lt).grown hgx (fun e => by
                  have e := Option.some.inj e
                  subst e
                  have h1 := hkeep _ cs t ht h
                  have h2 := hrowp
                  unfold Row at h1 h2
                  rw [h1] at h2
                  injection h2 with h2
                  injection h2 with _ h3 _
                  exact ht h3), (below_then hbr b3).grown hgx (below_then hbr b3).size (fun q e => by injection e with e; rw [← e]; exact hbp), Nat.le_trans hsr (Nat.le_trans b3.size hgx.size)⟩, by simp [intOf]; omega⟩
        · obtain rfl : i2 = k := by omega
          go_wp2_with fail
          go_ret
          exact ⟨rfl, below_then hb1 hbr⟩
theorem VS.part_cap {w : World} {B n c : Nat} {A : Option Addr} {vs : List Val} (h : VS w B A n c vs) : ∀ x ∈ vs, x.p.n ≤ x.p.c := by
  intro x hx
  obtain ⟨i, hi, rfl⟩ := List.mem_iff_getElem.1 hx
  obtain ⟨g, o, _, _, hvo⟩ := h.at_ (by have := h.len; omega)
  exact (hvo.bs i hi).cap
theorem picks_all {A A2 : Option Addr} {n c n2 c2 : Nat} {zs : List Nat} {vs : List Val} (w : World) (hzs : US w w.heap.size A n c zs) (hvs : VS w w.heap.size A2 n2 c2 vs) (hvn : n2 ≤ 50 → ∀ x ∈ vs, x.p.n ≤ 140737488355328) :
    Calls Try.prog 11 #[.slice A n c, .slice A2 n2 c2] w fun e w' => e = .returned (.bool true) ∧ Below w.heap.size w w' := by
  by_cases h : 50 < n ∨ 50 < n2
  · exact picks_out w hzs hvs h
  · cases hok : zs.all (okAt vs) with
    | true => exact picks_good w hzs hvs (by omega) (by omega) hok (hvn (by omega))
    | false => exact picks_bad w hzs hvs (by omega) (by omega) hok (hvn (by omega))
end Go.Proofs.Ytapekipfkghdhaa
