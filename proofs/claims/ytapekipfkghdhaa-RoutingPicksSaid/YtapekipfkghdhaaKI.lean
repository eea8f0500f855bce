/- RoutingParts: the walk. No condition. -/
import Derived.Test.YtapekipfkghdhaaKH
namespace Go.Proofs.Ytapekipfkghdhaa
open Go.RowKit
theorem prt_len : ∀ (k : Nat) (l : List UInt8), (prt k l).1.length ≤ l.length := by
  intro k
  induction k with
  | zero => intro l; exact Nat.zero_le _
  | succ k ih =>
    intro l
    unfold prt
    by_cases c0 : l.length = 0
    · rw [if_pos c0]; exact Nat.zero_le _
    · rw [if_neg c0]
      by_cases c1 : l.length < 2
      · rw [if_pos c1]; exact Nat.zero_le _
      · rw [if_neg c1]
        by_cases c2 : l.length - 2 < (getV (l.take 2)).toNat + 1
        · rw [if_pos c2]; exact Nat.zero_le _
        · rw [if_neg c2]
          by_cases c3 : (l.drop 2).getD (getV (l.take 2)).toNat 0 ≠ 0
          · rw [if_pos c3]; exact Nat.zero_le _
          · rw [if_neg c3]
            have := ih ((l.drop 2).drop ((getV (l.take 2)).toNat + 1))
            rw [List.length_drop, List.length_drop] at this
            by_cases c4 : (prt k ((l.drop 2).drop ((getV (l.take 2)).toNat + 1))).2 = 0
            · rw [if_pos c4]
              simp only [List.length_cons]
              omega
            · rw [if_neg c4]; exact Nat.zero_le _
set_option maxRecDepth 20000 in
set_option maxHeartbeats 800000 in
theorem rp_any {A : Option Addr} {n c : Nat} {l : List UInt8} (w : World) (hl : SW w A n c l) :
    Calls Try.prog 9 #[.slice A n c] w fun e w' => e = .returned (.bool true) ∧ Below w.heap.size w w' := by
  have hm := Nat.le_trans (BS.cap hl) (BS.max hl)
  unfold maxLen at hm
  by_cases h5 : 2000 < n
  · go_enter Try.func9, Try.ntmps9
    go_wp2_with fail
    refine (awake12 _).mono ?_
    rintro e w1 ⟨rfl, hb1⟩
    go_wp2_with fail
    go_ret
    exact ⟨rfl, hb1⟩
  · obtain ⟨T, hT⟩ : ∃ T, prt (n + 1) l = T := ⟨_, rfl⟩
    have HT := Lib.hid hT
    clear hT
    go_enter Try.func9, Try.ntmps9
    go_wp2_with fail
    refine (awake12 _).mono ?_
    rintro e w1 ⟨rfl, hb1⟩
    have hl1 := hl.then_ hb1
    go_wp2_with fail
    refine (parts_any _ hl1 (by omega)).mono ?_
    rintro e w2 ⟨v2, ps2, rfl, hPT2, hm2, hb2⟩
    rw [HT.out] at hm2 ⊢
    have hl2 := hl1.then_ hb2
    obtain ⟨A2, c2, rfl, hPS2⟩ := hPT2.form
    go_wp2_with fail
    refine (rparts_any _ hl2 (by omega)).mono ?_
    rintro e w3 ⟨v3, ls3, rfl, hTX3, hm3, hb3⟩
    rw [HT.out] at hm3 ⊢
    have hPS3 := hPS2.then_ hb3
    obtain ⟨k2, hk2⟩ : ∃ k, ps2.length = k := ⟨_, rfl⟩
    rw [hk2] at hPS3 ⊢
    obtain ⟨A3, c3, rfl, hTS3⟩ := hTX3.form
    obtain ⟨k3, hk3⟩ : ∃ k, ls3.length = k := ⟨_, rfl⟩
    rw [hk3] at hTS3 ⊢
    have hk2' : k2 ≤ 1099511627776 := by
      have h1 := prt_len (n + 1) l
      rw [HT.out, ← hm2, List.length_map, hk2, BS.len hl] at h1
      omega
    clear hk2 hk3
    go_wp2_with fail
    refine (texts_any _ hPS3 hk2').mono ?_
    rintro e w4 ⟨v4, rfl, hTX4, hb4⟩
    have hTS4 := hTS3.then_ hb4
    obtain ⟨A4, c4, rfl, hTS5⟩ := hTX4.form
    obtain ⟨k4, hk4⟩ : ∃ k, (ps2.map (·.l)).length = k := ⟨_, rfl⟩
    rw [hk4] at hTS5 ⊢
    clear hk4
    go_wp2_with fail
    refine (same_any _ hTS5 hTS4).mono ?_
    rintro e w5 ⟨rfl, q, rfl⟩
    rw [hm2, hm3]
    simp only [decide_true]
    go_wp2_with fail
    go_ret
    exact ⟨rfl, below_drewN (below_then hb1 (below_then hb2 (below_then hb3 hb4))) _⟩
end Go.Proofs.Ytapekipfkghdhaa
