/- The walk of OctetsPuts, of bytes that take at most 2^47 less 4096. -/
import Derived.Test.YtkjgaibkajafaaaSG
namespace Go.Proofs.Ytkjgaibkajafaaa
open Go.RowKit
theorem rsigned_no (x n : Int) (w : World) (h : ¬ (1 ≤ n ∧ n ≤ 8)) : Calls Try.prog 12 #[.int .u64 x, .int .i64 n] w fun e w' => e = .returned (.int .i64 0) ∧ w = w' := by
  by_cases h1 : n < 1
  · go_enter Try.func12, Try.ntmps12
    go_wp2_with fail
    go_ret
    exact ⟨rfl, rfl⟩
  · have h2 : 8 < n := by omega
    go_enter Try.func12, Try.ntmps12
    go_wp2_with fail
    go_ret
    exact ⟨rfl, rfl⟩
theorem str_nil (W : World) : (convert 23 9 (.slice none 0 0)).run Try.prog W = .ok (.string ⟨#[]⟩) W := str_now (BS.none_ W 0)
set_option maxHeartbeats 800000 in
theorem puts_no {A : Option Addr} {m c : Nat} (x n : Int) (w : World) (hn : ¬ (1 ≤ n ∧ n ≤ 8)) :
    Calls Try.prog 3 #[.int .u64 x, .int .i64 n, .slice A m c] w fun e w' => e = .returned (.bool true) ∧ Below w.heap.size w w' := by
  have hnil := str_nil
  have hd : decide (n < 1) = true ∨ (decide (n < 1) = false ∧ decide (8 < n) = true) := by
    by_cases h : n < 1
    · left; simpa using h
    · right; simp; omega
  rcases hd with hd | ⟨hd, hd'⟩
  all_goals
    go_enter Try.func3, Try.ntmps3
    go_wp2_with fail
    refine (awake_any _).mono ?_
    rintro e w1 ⟨rfl, hb⟩
    go_wp2_with fail
    refine (put_no _ _ _ hn).mono ?_
    rintro e w2 ⟨rfl, rfl⟩
    go_wp2_with fail
    go_region_held3 (fun w' => Below w.heap.size w w') (first | exact hb.drew | assumption)
      (first | (go_at_call 10; refine (rput_no _ _ _ hn).mono ?_; rintro e w' ⟨rfl, rfl⟩) | (go_at_call 11; refine (signed_no _ _ _ hn).mono ?_; rintro e w' ⟨rfl, rfl⟩) | (go_at_call 12; refine (rsigned_no _ _ _ hn).mono ?_; rintro e w' ⟨rfl, rfl⟩))
    all_goals go_wp2_with fail
    all_goals (refine (get_arg _ _ _ _ _ hn).mono ?_; rintro e w2 ⟨rfl, rfl⟩; go_wp2_with fail)
    all_goals go_ret
    all_goals exact ⟨rfl, hb.drew⟩
theorem cat_take (x : Int) (z : Nat) (l : List UInt8) : (putB x z ++ l).take z = putB x z := by
  rw [List.take_append_of_le_length (by rw [putB_len]; exact Nat.le_refl _), List.take_of_length_le (by rw [putB_len]; exact Nat.le_refl _)]
theorem cat_drop (x : Int) (z : Nat) (l : List UInt8) : (putB x z ++ l).drop z = l := by
  have := List.drop_left' (l₁ := putB x z) (l₂ := l) (putB_len x z)
  exact this
set_option maxHeartbeats 1600000 in
theorem puts_yes {A : Option Addr} {m c : Nat} {l : List UInt8} (x n : Int) (w : World) (hl : BS w w.heap.size A m c l) (hc : c ≤ 140737488351232) (hx0 : 0 ≤ x) (hx1 : x < 18446744073709551616) (hn1 : 1 ≤ n) (hn8 : n ≤ 8) :
    Calls Try.prog 3 #[.int .u64 x, .int .i64 n, .slice A m c] w fun e w' => e = .returned (.bool true) ∧ Below w.heap.size w w' := by
  obtain ⟨z, rfl⟩ := Int.eq_ofNat_of_zero_le (show 0 ≤ n by omega)
  obtain ⟨i0, hi, hz0, hz1, hz2⟩ := info_parts info_byte
  have hcap := hl.cap
  have RP := Lib.hid (fun W => rput_any x z W hx0 hx1 hn1 hn8)
  have SG := Lib.hid (fun W => signed_any x z W hx0 hx1 hn1 hn8)
  have RS := Lib.hid (fun W => rsigned_any x z W hx0 hx1 hn1 hn8)
  clear hx0 hx1
  go_enter Try.func3, Try.ntmps3
  go_wp2_with fail
  refine (awake_any _).mono ?_
  rintro e w1 ⟨rfl, hb⟩
  go_wp2_with fail
  refine (put_any _ _ _ hn1 hn8).mono ?_
  rintro e w2 ⟨v, rfl, hown, hb2⟩
  rw [Int.toNat_natCast] at hown
  obtain ⟨A2, c2, rfl, hbs⟩ := BS.of_own hown
  clear hown
  have hb12 := below_then hb hb2
  go_wp2_with fail
  have s2 := str_now hbs.drew
  go_region_with (first | (go_at_call 10; refine (RP.out _).mono ?_; rintro e w' ⟨v3, rfl, hown3, hb3⟩; rw [Int.toNat_natCast] at hown3; obtain ⟨A3, c3, rfl, hbs3⟩ := BS.of_own hown3; have s3 := str_now hbs3; have s4 := str_now (hbs.below (below_then (Below.refl _ _).drew hb3)); clear hown3) | (go_at_call 11; refine (SG.out _).mono ?_; rintro e w' ⟨rfl, rfl⟩) | (go_at_call 12; refine (RS.out _).mono ?_; rintro e w' ⟨rfl, hb4⟩))
  all_goals
    have hb23 : Below w2.heap.size w2 _ := below_then (below_then (Below.refl _ _).drew hb3) hb4
    have hbw : Below w.heap.size w _ := below_then hb12 hb23
    have hbs5 := hbs.below hb23
    have hl5 := hl.below hbw
    clear hbs3 hb3 hb4 s2 s3 s4 hbs hb2 hb
    go_wp2_with (first
      | (at_builtin; refine wpList_append_bs _ rfl (.tmp 56) (.tmp 57) 23 rfl w'.heap.size 5 i0 (.int .u8 0) Try.underlying23 hi hz0 hz1 hz2 rfl (.slice none 0 0) 0 [] rfl (World.ownsRow_nil _ _ _ _) rfl hbs5 (by omega) (Nat.le_refl _) ?_; intro v6 w6 hown6 hg6 hat6; have hb6 : Below w'.heap.size w' w6 := (Below.refl _ _).grown hg6 (Nat.le_refl _) (by simp [Value.ownBlock]); rw [List.nil_append, Nat.zero_add] at hown6)
      | (at_builtin; refine wpList_append_bs _ rfl (.tmp 59) (.tmp 60) 23 rfl w'.heap.size 5 i0 (.int .u8 0) Try.underlying23 hi hz0 hz1 hz2 rfl _ z _ rfl hown6 rfl (hl5.below (hb6.mono hbw.size)) (by omega) hb6.size ?_; intro v7 w7 hown7 hg7 hat7; have hb7 : Below w'.heap.size w' w7 := hb6.grown hg7 hb6.size (fun q hq => (hown6.lt q hq).1); rw [← bv_append] at hown7; obtain ⟨A7, c7, rfl, hbs7⟩ := BS.of_own hown7; clear hown6 hown7))
    refine (get_any _ _ hbs7 hn1 hn8 (by omega)).mono ?_
    rintro e w8 ⟨A8, q8, rfl, hbs8, rfl⟩
    rw [Int.toNat_natCast, cat_take]
    rw [Int.toNat_natCast, cat_drop] at hbs8
    have hb8 : Below w'.heap.size w' (w7.drewN q8) := below_drewN hb7 q8
    have s8 := str_now (hbs8.drewN q8)
    have s9 := str_now (hl5.below (hb8.mono hbw.size))
    have hsub : z + m - z = m := by omega
    rw [hsub] at s8 hbs8
    go_wp2_with fail
    refine (rget_any 0 z _ (hbs5.below (hb8.mono hb23.size)) hn1 hn8 (by omega) (by omega)).mono ?_
    rintro e w9 ⟨rfl, rfl⟩
    rw [Int.toNat_natCast, show Int.toNat 0 = 0 from rfl, List.drop_zero, List.take_of_length_le (by rw [putB_len]; exact Nat.le_refl _)]
    go_wp2_with fail
    go_ret
    exact ⟨rfl, below_then hbw hb8⟩
theorem puts_any {A : Option Addr} {m c : Nat} {l : List UInt8} (x n : Int) (w : World) (hl : BS w w.heap.size A m c l) (hc : c ≤ 140737488351232) (hx0 : 0 ≤ x) (hx1 : x ≤ 18446744073709551615) :
    Calls Try.prog 3 #[.int .u64 x, .int .i64 n, .slice A m c] w fun e w' => e = .returned (.bool true) ∧ Below w.heap.size w w' := by
  by_cases hn : 1 ≤ n ∧ n ≤ 8
  · exact puts_yes x n w hl hc hx0 (by omega) hn.1 hn.2
  · exact puts_no x n w hn
end Go.Proofs.Ytkjgaibkajafaaa
