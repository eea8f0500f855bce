/- The walk of OctetsRows. No condition but that the numbers fit their kinds. -/
import Derived.Test.YtkjgaibkajafaaaRO
namespace Go.Proofs.Ytkjgaibkajafaaa
open Go.RowKit
theorem cat_take' (x : Int) (z : Nat) (l : List UInt8) : (putB x z ++ l).take z = putB x z := by
  rw [List.take_append_of_le_length (by rw [putB_len]; exact Nat.le_refl _), List.take_of_length_le (by rw [putB_len]; exact Nat.le_refl _)]
theorem cat_drop' (x : Int) (z : Nat) (l : List UInt8) : (putB x z ++ l).drop z = l := List.drop_left' (l₁ := putB x z) (l₂ := l) (putB_len x z)
theorem rows_many {A : Option Addr} {m c : Nat} (n : Int) (w : World) (h : 100 < m) :
    Calls Try.prog 7 #[.slice A m c, .int .i64 n] w fun e w' => e = .returned (.bool true) ∧ Below w.heap.size w w' := by
  go_enter Try.func7, Try.ntmps7
  go_wp2_with fail
  refine (awake_any _).mono ?_
  rintro e w1 ⟨rfl, hb⟩
  go_wp2_with fail
  go_ret
  exact ⟨rfl, hb⟩
theorem rot_key (z : Int) (j : Nat) (hj : j < 8) (z0 : 0 ≤ z) (z1 : z < 18446744073709551616) :
    (z % 256 ^ (j + 1) != IntKind.u64.wrap (z * 2 ^ (64 - 8 * (j + 1))) / 2 ^ (64 - 8 * (j + 1))) = false := by
  have e : IntKind.u64.wrap (z * 2 ^ (64 - 8 * (j + 1))) / 2 ^ (64 - 8 * (j + 1)) = z % 256 ^ (j + 1) := by
    match j, hj with
    | 0, _ | 1, _ | 2, _ | 3, _ | 4, _ | 5, _ | 6, _ | 7, _ =>
      simp only [IntKind.wrap_u64, Nat.reduceAdd, Nat.reduceMul, Nat.reduceSub, Int.reducePow]
      omega
  rw [e]; simp
set_option maxHeartbeats 1600000 in
theorem rows_few {A : Option Addr} {m c : Nat} {zs : List Int} (n : Int) (w : World) (hz : NS w w.heap.size A m zs) (h : m ≤ 100) (j : Nat) (hj : j < 8) (hn : bits .and .i64 n 7 = (j : Int)) :
    Calls Try.prog 7 #[.slice A m c, .int .i64 n] w fun e w' => e = .returned (.bool true) ∧ Below w.heap.size w w' := by
  obtain ⟨i0, hi, hz0, hz1, hz2⟩ := info_parts info_byte
  have hlen := hz.len
  go_enter Try.func7, Try.ntmps7
  go_wp2_with fail
  refine (awake_any _).mono ?_
  rintro e w1 ⟨rfl, hb⟩
  go_wp2_with fail
  go_loopw [7, 8] (fun v i wr => ∃ t : Nat, t ≤ m ∧ i = .int .i64 t ∧ wr.ownsRow w.heap.size 5 1 v (t * (j + 1)) (bv (cat (j + 1) (zs.take t))) ∧ Below w.heap.size w wr) (fun _ i _ => m - (intOf i).toNat)
  case atStart => exact ⟨0, Nat.zero_le _, rfl, by rw [Nat.zero_mul]; exact World.ownsRow_nil _ _ _ _, hb⟩
  case round =>
    obtain ⟨t, ht, rfl, hown, hbr⟩ := hrel
    by_cases hlt : t < m
    · obtain ⟨b, o, rfl, hbB, hcell⟩ := hz.at_ (by omega)
      have hct := (hbr.cell (p := ⟨b, o + t, none⟩) hbB).trans (hcell t (by omega))
      have hfit := hz.fit zs[t] (List.getElem_mem (by omega))
      have HF := Lib.hid hfit
      clear hfit
      go_wp2_with fail
      refine (put_any _ _ _ (by omega) (by omega)).mono ?_
      rintro e w2 ⟨v2, rfl, hown2, hb2⟩
      rw [show ((j : Int) + 1).toNat = j + 1 from by omega] at hown2
      obtain ⟨A2, c2, rfl, hbs2⟩ := BS.of_own hown2
      have hown1 := owns_below hown hb2
      have hb3 := below_then hbr hb2
      clear hown2 hown
      have hle : t * (j + 1) ≤ 100 * 8 := Nat.mul_le_mul (by omega) (by omega)
      go_wp2_with (at_builtin; refine wpList_append_bs _ rfl (.tmp 31) (.tmp 37) 23 rfl w.heap.size 5 i0 (.int .u8 0) Try.underlying23 hi hz0 hz1 hz2 rfl _ (t * (j + 1)) _ rfl hown1 rfl hbs2 (by omega) hb3.size ?_; intro v4 w4 hown4 hg4 hat4; have hb4 : Below w.heap.size w w4 := hb3.grown hg4 hb3.size (fun q hq => (hown1.lt q hq).1); rw [← bv_append, ← cat_snoc (j + 1) zs t (by omega), show t * (j + 1) + (j + 1) = (t + 1) * (j + 1) from by rw [Nat.succ_mul]] at hown4; clear hown1)
      exact ⟨⟨t + 1, by omega, by go_num, hown4, hb4⟩, by simp [intOf]; omega⟩
    · obtain rfl : t = m := by omega
      obtain ⟨A2, c2, rfl, hbs2⟩ := BS.of_own hown
      rw [List.take_of_length_le (by omega)] at hbs2
      clear hown
      go_wp2_with fail
      go_loopw [7, 9] (fun v i wr => ∃ s : Nat, s ≤ t ∧ i = .int .i64 s ∧ ∃ B A n c, v = .slice A n c ∧ BS wr B A n c (cat (j + 1) (zs.drop s)) ∧ Below w.heap.size w wr) (fun _ i _ => t - (intOf i).toNat)
      case atStart => exact ⟨0, Nat.zero_le _, rfl, _, _, _, _, rfl, hbs2, hbr⟩
      case round =>
        obtain ⟨s, hs, rfl, B, A3, n3, c3, rfl, hbs3, hb3⟩ := hrel
        have hl3 := hbs3.len
        rw [cat_len, List.length_drop] at hl3
        by_cases hlt2 : s < t
        · have hhead := cat_head (j + 1) zs s (by omega)
          have hn3 : j + 1 ≤ n3 := by
            have := Nat.mul_le_mul_right (j + 1) (show 1 ≤ zs.length - s by omega)
            omega
          obtain ⟨b, o, rfl, hbB, hcell⟩ := hz.at_ (by omega)
          have hct := (hb3.cell (p := ⟨b, o + s, none⟩) hbB).trans (hcell s (by omega))
          have hfit := hz.fit zs[s] (List.getElem_mem (by omega))
          have HF := Lib.hid hfit
          have HH := Lib.hid hhead
          have HL3 := Lib.hid hl3
          clear hfit hhead hl3
          go_wp2_with fail
          refine (get_any _ _ hbs3 (by omega) (by omega) (by omega)).mono ?_
          rintro e w4 ⟨A4, q4, rfl, hbs4, rfl⟩
          rw [show ((j : Int) + 1).toNat = j + 1 from by omega] at hbs4
          rw [show ((j : Int) + 1).toNat = j + 1 from by omega]
          rw [HH.out, cat_drop'] at hbs4
          rw [HH.out, cat_take', getV_putB]
          have hq := rot_key zs[s] j hj HF.out.1 HF.out.2
          go_wp2_with fail
          exact ⟨⟨s + 1, by omega, by go_num, B, A4, _, _, rfl, hbs4.drewN q4, below_drewN hb3 q4⟩, by simp [intOf]; omega⟩
        · obtain rfl : s = t := by omega
          have hl0 : n3 = 0 := by rw [← hl3, show zs.length - s = 0 from by omega, Nat.zero_mul]
          subst hl0
          clear hl3
          go_wp2_with fail
          refine (get_short _ _ _ _ _ (by omega) (by omega) (by omega)).mono ?_
          rintro e w4 ⟨rfl, rfl⟩
          go_wp2_with fail
          go_ret
          exact ⟨rfl, hb3⟩
theorem rows_any {A : Option Addr} {m c : Nat} {zs : List Int} (n : Int) (w : World) (hz : NS w w.heap.size A m zs) :
    Calls Try.prog 7 #[.slice A m c, .int .i64 n] w fun e w' => e = .returned (.bool true) ∧ Below w.heap.size w w' := by
  by_cases h : 100 < m
  · exact rows_many n w h
  · exact rows_few n w hz (by omega) (n % 8).toNat (by omega) (by rw [and7]; omega)
end Go.Proofs.Ytkjgaibkajafaaa
