/- MurmurShort, MurmurTail, MurmurNoughts: the walks. No condition but that the numbers are of their kinds. -/
import Derived.Test.YtapekipfkghdhaaML
namespace Go.Proofs.Ytapekipfkghdhaa
open Go.RowKit
theorem u8_ex {v : Int} (h0 : 0 ≤ v) (h1 : v < 256) : ∃ b : UInt8, (b.toNat : Int) = v := ⟨UInt8.ofNat v.toNat, by simp only [UInt8.toNat_ofNat']; omega⟩
theorem bs_own {w : World} {base n : Nat} {v : Value} {l : List UInt8} (h : w.ownsRow base 5 1 v n (bv l)) : ∃ A c, v = .slice A n c ∧ BS w w.heap.size A n c l ∧ n = l.length := by
  obtain ⟨A, c, e, hb⟩ := BS.of_own h
  exact ⟨A, c, e, hb, hb.len.symm⟩
theorem zer_bv (n : Nat) : zer n = (bv (List.replicate n 0)).toArray := by
  unfold zer bv
  rw [List.map_replicate]
  exact (List.toArray_replicate _ _).symm
theorem row_zer (w : World) (n : Nat) : Row (w.alloc (.cells (zer n) 5)) w.heap.size 5 (bv (List.replicate n 0)).toArray := by
  rw [← zer_bv]
  exact Row.new w _ _
theorem set_bv (l : List UInt8) (k : Nat) : (bv l).toArray.setIfInBounds k (.int .u8 255) = (bv (l.set k 255)).toArray := by
  simp [bv, List.map_set]
theorem row_bs {w : World} {g n : Nat} {t : TypeId} {l : List UInt8} (h : Row w g t (bv l).toArray) (hn : l.length = n) (hm : n ≤ maxLen) : BS w w.heap.size (some ⟨g, 0, none⟩) n n l :=
  ⟨hn, Nat.le_refl _, hm, (fun e => by cases e), fun _ => ⟨g, 0, rfl, h.lt, fun i hi => by rw [Nat.zero_add, h.cell]; simp [bv, hi]⟩⟩
theorem own_blk {w : World} {base e n : Nat} {v : Value} {xs : List Value} (h : w.ownsRow base e 1 v n xs) : ∀ k, v.ownBlock = some k → base ≤ k := fun k hk => (h.lt k hk).1
set_option maxHeartbeats 1600000 in
theorem short_any (n c d : Int) (w : World) (n0 : 0 ≤ n) (n1 : n < 256) (c0 : 0 ≤ c) (c1 : c < 256) (d0 : 0 ≤ d) (d1 : d < 256) :
    Calls Try.prog 4 #[.int .u8 n, .int .u8 c, .int .u8 d] w fun e w' => e = .returned (.bool true) ∧ Below w.heap.size w w' := by
  obtain ⟨i0, hi, hz0, hz1, hz2⟩ := info_parts info_byte
  obtain ⟨N, hN⟩ : ∃ N : Nat, n % 33 = N := ⟨(n % 33).toNat, by omega⟩
  have hN33 : N < 33 := by omega
  go_enter Try.func4, Try.ntmps4
  go_wp2_with fail
  refine (awake11 _).mono ?_
  rintro e w1 ⟨rfl, hbw⟩
  go_wp2_with fail
  go_loopw [8, 9] (fun v i wr => ∃ k : Nat, k ≤ N ∧ i = .int .i64 k ∧ ∃ bs, wr.ownsRow w1.heap.size 5 1 v k (bv bs) ∧ Below w1.heap.size w1 wr) (fun _ i _ => N - (intOf i).toNat)
  case atStart => exact ⟨0, Nat.zero_le _, rfl, [], World.ownsRow_nil _ _ _ _, Below.refl _ _⟩
  case round =>
    obtain ⟨k, hk, rfl, bs, hown, hb⟩ := hrel
    by_cases hlt : k < N
    · by_cases h2 : (k : Int) % 2 = 0
      · obtain ⟨b, hb8⟩ := u8_ex c0 c1
        have hbs := BS.oneI wr 5 b hb8
        have HBB := Lib.hid hb8
        clear hb8
        have hsz := hb.size
        have hob := own_blk hown
        go_wp2_with (at_builtin; refine wpList_append_bs _ rfl _ _ 22 rfl w1.heap.size 5 i0 (.int .u8 0) Try.underlying22 hi hz0 hz1 hz2 rfl _ k (bv bs) rfl (hown.alloc _) rfl hbs ?_ ?_ ?_)
        · omega
        · simp; omega
        · intro v' w' hown' hg' hat
          go_wp2_with fail
          refine ⟨⟨k + 1, by omega, by go_num, bs ++ [b], ?_, ?_⟩, ?_⟩
          · rw [bv_append]; exact hown'
          · exact (hb.alloc hsz _).grown hg' (by simp; omega) hob
          · simp [intOf]; omega
      · obtain ⟨b, hb8⟩ := u8_ex d0 d1
        have hbs := BS.oneI wr 5 b hb8
        have HBB := Lib.hid hb8
        clear hb8
        have hsz := hb.size
        have hob := own_blk hown
        go_wp2_with (at_builtin; refine wpList_append_bs _ rfl _ _ 22 rfl w1.heap.size 5 i0 (.int .u8 0) Try.underlying22 hi hz0 hz1 hz2 rfl _ k (bv bs) rfl (hown.alloc _) rfl hbs ?_ ?_ ?_)
        · omega
        · simp; omega
        · intro v' w' hown' hg' hat
          go_wp2_with fail
          refine ⟨⟨k + 1, by omega, by go_num, bs ++ [b], ?_, ?_⟩, ?_⟩
          · rw [bv_append]; exact hown'
          · exact (hb.alloc hsz _).grown hg' (by simp; omega) hob
          · simp [intOf]; omega
    · obtain rfl : k = N := by omega
      obtain ⟨A, cc, rfl, hl1, -⟩ := bs_own hown
      obtain ⟨x, hx⟩ : ∃ x, hh bs = x := ⟨_, rfl⟩
      obtain ⟨y, hy⟩ : ∃ y, gg bs = y := ⟨_, rfl⟩
      obtain ⟨z, hz⟩ : ∃ z, tok (hh bs) = z := ⟨_, rfl⟩
      have HX := Lib.hid hx
      have HY := Lib.hid hy
      have HZ := Lib.hid hz
      clear hx hy hz
      go_wp2_with fail
      refine (hash_is _ hl1 HX HY).mono ?_
      rintro e w2 ⟨rfl, rfl⟩
      go_wp2_with fail
      refine (rhash_is _ hl1 (by omega) HX HY).mono ?_
      rintro e w2 ⟨rfl, rfl⟩
      go_wp2_with fail
      refine (token_is _ hl1 HZ).mono ?_
      rintro e w2 ⟨rfl, rfl⟩
      go_wp2_with fail
      refine (rtoken_is _ hl1 (by omega) HZ).mono ?_
      rintro e w2 ⟨rfl, rfl⟩
      go_wp2_with fail
      go_ret
      exact ⟨rfl, below_then hbw hb⟩
set_option maxHeartbeats 1600000 in
theorem tail_any {A : Option Addr} {m cm : Nat} {l : List UInt8} (n c : Int) (w : World) (hl : BS w w.heap.size A m cm l) (n0 : 0 ≤ n) (n1 : n < 256) (c0 : 0 ≤ c) (c1 : c < 256) :
    Calls Try.prog 6 #[.int .u8 n, .slice A m cm, .int .u8 c] w fun e w' => e = .returned (.bool true) ∧ Below w.heap.size w w' := by
  obtain ⟨i0, hi, hz0, hz1, hz2⟩ := info_parts info_byte
  have hm := Nat.le_trans hl.cap hl.max
  unfold maxLen at hm
  by_cases h40 : 40 < m
  · go_enter Try.func6, Try.ntmps6
    go_wp2_with fail
    refine (awake11 _).mono ?_
    rintro e w1 ⟨rfl, hbw⟩
    go_wp2_with fail
    go_ret
    exact ⟨rfl, hbw⟩
  obtain ⟨N, hN⟩ : ∃ N : Nat, 16 * (n % 4) = N := ⟨(16 * (n % 4)).toNat, by omega⟩
  have hN64 : N < 64 := by omega
  go_enter Try.func6, Try.ntmps6
  go_wp2_with fail
  refine (awake11 _).mono ?_
  rintro e w1 ⟨rfl, hbw⟩
  go_wp2_with fail
  go_loopw [8, 9] (fun v i wr => ∃ k : Nat, k ≤ N ∧ i = .int .i64 k ∧ ∃ bs, wr.ownsRow w1.heap.size 5 1 v k (bv bs) ∧ Below w1.heap.size w1 wr) (fun _ i _ => N - (intOf i).toNat)
  case atStart => exact ⟨0, Nat.zero_le _, rfl, [], World.ownsRow_nil _ _ _ _, Below.refl _ _⟩
  case round =>
    obtain ⟨k, hk, rfl, bs, hown, hb⟩ := hrel
    by_cases hlt : k < N
    · obtain ⟨b, hb8⟩ := u8_ex (v := (c + (k : Int) * 7) % 256) (by omega) (by omega)
      have hbs := BS.oneI wr 5 b hb8
      have HBB := Lib.hid hb8
      clear hb8
      have hsz := hb.size
      have hob := own_blk hown
      go_wp2_with (at_builtin; refine wpList_append_bs _ rfl _ _ 22 rfl w1.heap.size 5 i0 (.int .u8 0) Try.underlying22 hi hz0 hz1 hz2 rfl _ k (bv bs) rfl (hown.alloc _) rfl hbs ?_ ?_ ?_)
      · omega
      · simp; omega
      · intro v' w' hown' hg' hat
        go_wp2_with fail
        refine ⟨⟨k + 1, by omega, by go_num, bs ++ [b], ?_, ?_⟩, ?_⟩
        · rw [bv_append]; exact hown'
        · exact (hb.alloc hsz _).grown hg' (by simp; omega) hob
        · simp [intOf]; omega
    · obtain rfl : k = N := by omega
      have hobs := own_blk hown
      have hsz := hb.size
      have hlr : BS wr w.heap.size A m cm l := hl.below (below_then hbw hb)
      go_wp2_with (at_builtin; refine wpList_append_bs _ rfl _ _ 22 rfl w1.heap.size 5 i0 (.int .u8 0) Try.underlying22 hi hz0 hz1 hz2 rfl _ k (bv bs) rfl hown rfl hlr ?_ ?_ ?_)
      · omega
      · exact hsz
      · intro v' w' hown' hg' hat
        rw [← bv_append] at hown'
        obtain ⟨A2, cc, rfl, hl1, -⟩ := bs_own hown'
        obtain ⟨bs, hbs⟩ : ∃ bs2, bs ++ l = bs2 := ⟨_, rfl⟩
        rw [hbs] at hl1
        obtain ⟨x, hx⟩ : ∃ x, hh bs = x := ⟨_, rfl⟩
        obtain ⟨y, hy⟩ : ∃ y, gg bs = y := ⟨_, rfl⟩
        obtain ⟨z, hz⟩ : ∃ z, tok (hh bs) = z := ⟨_, rfl⟩
        have HX := Lib.hid hx
        have HY := Lib.hid hy
        have HZ := Lib.hid hz
        clear hx hy hz
        go_wp2_with fail
        refine (hash_is _ hl1 HX HY).mono ?_
        rintro e w2 ⟨rfl, rfl⟩
        go_wp2_with fail
        refine (rhash_is _ hl1 (by omega) HX HY).mono ?_
        rintro e w2 ⟨rfl, rfl⟩
        go_wp2_with fail
        go_ret
        exact ⟨rfl, below_then hbw (hb.grown hg' hsz hobs)⟩
set_option maxHeartbeats 1600000 in
theorem noughts_any (n : Int) (ones : Bool) (w : World) (n0 : 0 ≤ n) (n1 : n < 65536) :
    Calls Try.prog 7 #[.int .u16 n, .bool ones] w fun e w' => e = .returned (.bool true) ∧ Below w.heap.size w w' := by
  obtain ⟨i0, hi, hz0, hz1, hz2⟩ := info_parts info_byte
  obtain ⟨N, hN⟩ : ∃ N : Nat, n % 600 = N := ⟨(n % 600).toNat, by omega⟩
  have hN6 : N < 600 := by omega
  have hmk := run_makeB (P := Try.prog) 22 5 i0 Try.underlying22 hi hz0 hz1 hz2 .i64 .i64 N (by omega)
  go_enter Try.func7, Try.ntmps7
  go_wp2_with fail
  refine (awake11 _).mono ?_
  rintro e w1 ⟨rfl, hbw⟩
  go_wp2_with fail
  go_loopw [7] (fun i wr => ∃ k : Nat, k ≤ N ∧ i = .int .i64 k ∧ ∃ bs : List UInt8, bs.length = N ∧ Row wr w1.heap.size 5 (bv bs).toArray ∧ Below w1.heap.size w1 wr) (fun i _ => N - (intOf i).toNat)
  case atStart => exact ⟨0, Nat.zero_le _, rfl, List.replicate N 0, by simp, row_zer w1 N, below_new (Below.refl _ _) _⟩
  case round =>
    obtain ⟨k, hk, rfl, bs, hbl, hrow, hb⟩ := hrel
    by_cases hlt : k < N
    · have hck : wr.cell? ⟨w1.heap.size, k, none⟩ = some (.int .u8 ((bs[k]'(by omega)).toNat : Int)) := by rw [hrow.cell]; simp [bv, show k < bs.length by omega]
      have hfk := hrow.frozen k
      cases ones
      · go_wp2_with fail
        exact ⟨⟨k + 1, by omega, by go_num, bs, hbl, hrow, hb⟩, by simp [intOf]; omega⟩
      · go_wp2_with fail
        exact ⟨⟨k + 1, by omega, by go_num, bs.set k 255, by simp [hbl], by have := hrow.set_ k (.int .u8 255); rw [set_bv] at this; exact this, hb.setCell (Nat.le_refl _) _⟩, by simp [intOf]; omega⟩
    · have hl1 : BS wr wr.heap.size (some ⟨w1.heap.size, 0, none⟩) N N bs := row_bs hrow hbl (by unfold maxLen; omega)
      obtain ⟨x, hx⟩ : ∃ x, hh bs = x := ⟨_, rfl⟩
      obtain ⟨y, hy⟩ : ∃ y, gg bs = y := ⟨_, rfl⟩
      obtain ⟨z, hz⟩ : ∃ z, tok (hh bs) = z := ⟨_, rfl⟩
      have HX := Lib.hid hx
      have HY := Lib.hid hy
      have HZ := Lib.hid hz
      clear hx hy hz
      go_wp2_with fail
      refine (hash_is _ hl1 HX HY).mono ?_
      rintro e w2 ⟨rfl, rfl⟩
      go_wp2_with fail
      refine (rhash_is _ hl1 (by omega) HX HY).mono ?_
      rintro e w2 ⟨rfl, rfl⟩
      go_wp2_with fail
      refine (token_is _ hl1 HZ).mono ?_
      rintro e w2 ⟨rfl, rfl⟩
      go_wp2_with fail
      refine (rtoken_is _ hl1 (by omega) HZ).mono ?_
      rintro e w2 ⟨rfl, rfl⟩
      go_wp2_with fail
      go_ret
      exact ⟨rfl, below_then hbw hb⟩
end Go.Proofs.Ytapekipfkghdhaa
