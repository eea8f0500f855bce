/- MurmurHashes and MurmurLeast: the walks. No condition. -/
import Derived.Test.YtapekipfkghdhaaMT
namespace Go.Proofs.Ytapekipfkghdhaa
open Go.RowKit
section
variable {A : Option Addr} {n c : Nat} {l : List UInt8}
theorem hash_is {B : Nat} {x y : Int} (w : World) (hl : BS w B A n c l) (hx : Hid (hh l = x)) (hy : Hid (gg l = y)) :
    Calls Try.prog 15 #[.slice A n c] w fun e w' => e = .returned (.tuple #[.int .u64 x, .int .u64 y]) ∧ w = w' := by
  rw [← hx.out, ← hy.out]
  exact hash_any w hl
theorem rhash_is {B : Nat} {x y : Int} (w : World) (hl : BS w B A n c l) (hn : n ≤ 9223372036854775791) (hx : Hid (hh l = x)) (hy : Hid (gg l = y)) :
    Calls Try.prog 16 #[.slice A n c] w fun e w' => e = .returned (.tuple #[.int .u64 x, .int .u64 y]) ∧ w = w' := by
  rw [← hx.out, ← hy.out]
  exact rhash_any w hl hn
theorem token_is {B : Nat} {x : Int} (w : World) (hl : BS w B A n c l) (hx : Hid (tok (hh l) = x)) :
    Calls Try.prog 17 #[.slice A n c] w fun e w' => e = .returned (.int .i64 x) ∧ w = w' := by
  rw [← hx.out]
  exact token_any w hl
theorem rtoken_is {B : Nat} {x : Int} (w : World) (hl : BS w B A n c l) (hn : n ≤ 9223372036854775791) (hx : Hid (tok (hh l) = x)) :
    Calls Try.prog 18 #[.slice A n c] w fun e w' => e = .returned (.int .i64 x) ∧ w = w' := by
  rw [← hx.out]
  exact rtoken_any w hl hn
set_option maxHeartbeats 800000 in
theorem hashes_any (w : World) (hl : BS w w.heap.size A n c l) :
    Calls Try.prog 3 #[.slice A n c] w fun e w' => e = .returned (.bool true) ∧ Below w.heap.size w w' := by
  have hm := Nat.le_trans hl.cap hl.max
  unfold maxLen at hm
  by_cases h3 : 3000 < n
  · go_enter Try.func3, Try.ntmps3
    go_wp2_with fail
    refine (awake11 _).mono ?_
    rintro e w1 ⟨rfl, hb⟩
    go_wp2_with fail
    go_ret
    exact ⟨rfl, hb⟩
  · obtain ⟨x, hx⟩ : ∃ x, hh l = x := ⟨_, rfl⟩
    obtain ⟨y, hy⟩ : ∃ y, gg l = y := ⟨_, rfl⟩
    obtain ⟨z, hz⟩ : ∃ z, tok (hh l) = z := ⟨_, rfl⟩
    have HX := Lib.hid hx
    have HY := Lib.hid hy
    have HZ := Lib.hid hz
    clear hx hy hz
    go_enter Try.func3, Try.ntmps3
    go_wp2_with fail
    refine (awake11 _).mono ?_
    rintro e w1 ⟨rfl, hb⟩
    have hl1 := hl.below hb
    go_wp2_with fail
    refine (hash_is _ hl1 HX HY).mono ?_
    rintro e w2 ⟨rfl, rfl⟩
    go_wp2_with fail
    refine (rhash_is _ hl1 (by omega) HX HY).mono ?_
    rintro e w2 ⟨rfl, rfl⟩
    go_wp2_with fail
    refine (token_is _ hl1 HZ).mono ?_
    rintro e w2 ⟨rfl, rfl⟩
    go_wp2_with fail
    refine (rtoken_is _ hl1 (by omega) HZ).mono ?_
    rintro e w2 ⟨rfl, rfl⟩
    go_wp2_with fail
    go_ret
    exact ⟨rfl, hb⟩
set_option maxHeartbeats 800000 in
theorem least_any (w : World) (hl : BS w w.heap.size A n c l) :
    Calls Try.prog 5 #[.slice A n c] w fun e w' => e = .returned (.bool true) ∧ Below w.heap.size w w' := by
  have hm := Nat.le_trans hl.cap hl.max
  unfold maxLen at hm
  have hr := hh_rng l
  by_cases h3 : 3000 < n
  · clear hr
    go_enter Try.func5, Try.ntmps5
    go_wp2_with fail
    refine (awake11 _).mono ?_
    rintro e w1 ⟨rfl, hb⟩
    go_wp2_with fail
    go_ret
    exact ⟨rfl, hb⟩
  · obtain ⟨x, hx⟩ : ∃ x, hh l = x := ⟨_, rfl⟩
    obtain ⟨y, hy⟩ : ∃ y, gg l = y := ⟨_, rfl⟩
    have HX := Lib.hid hx
    have HY := Lib.hid hy
    rw [hx] at hr
    by_cases hb63 : x = 9223372036854775808
    · have HZ := Lib.hid (show tok (hh l) = 9223372036854775807 by rw [hx]; unfold tok; rw [if_pos hb63])
      clear hx hy hr
      go_enter Try.func5, Try.ntmps5
      go_wp2_with fail
      refine (awake11 _).mono ?_
      rintro e w1 ⟨rfl, hb⟩
      have hl1 := hl.below hb
      go_wp2_with fail
      refine (hash_is _ hl1 HX HY).mono ?_
      rintro e w2 ⟨rfl, rfl⟩
      go_wp2_with fail
      refine (token_is _ hl1 HZ).mono ?_
      rintro e w2 ⟨rfl, rfl⟩
      go_wp2_with fail
      go_ret
      exact ⟨rfl, hb⟩
    · obtain ⟨z, hz⟩ : ∃ z, wrap64 x = z := ⟨_, rfl⟩
      have HZ := Lib.hid (show tok (hh l) = z by rw [hx]; unfold tok; rw [if_neg hb63, hz])
      have hzu : IntKind.u64.wrap z = x := by rw [← hz, IntKind.wrap_u64]; unfold wrap64; omega
      have hzn : ¬ z = -9223372036854775808 := by rw [← hz]; unfold wrap64; omega
      clear hx hy hr hz
      go_enter Try.func5, Try.ntmps5
      go_wp2_with fail
      refine (awake11 _).mono ?_
      rintro e w1 ⟨rfl, hb⟩
      have hl1 := hl.below hb
      go_wp2_with fail
      refine (hash_is _ hl1 HX HY).mono ?_
      rintro e w2 ⟨rfl, rfl⟩
      go_wp2_with fail
      refine (token_is _ hl1 HZ).mono ?_
      rintro e w2 ⟨rfl, rfl⟩
      go_wp2_with fail
      go_ret
      exact ⟨ret_bool (by simp [hzn]), hb⟩
end
end Go.Proofs.Ytapekipfkghdhaa
