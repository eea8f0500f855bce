/- The walk of OctetsTakes, of bytes that take at most 2^47. -/
import Derived.Test.YtkjgaibkajafaaaG
namespace Go.Proofs.Ytkjgaibkajafaaa
open Go.RowKit
theorem takes_short {A : Option Addr} {m c : Nat} {l : List UInt8} (n : Int) (w : World) (hl : BS w w.heap.size A m c l) (hn : (m : Int) < n) :
    Calls Try.prog 5 #[.slice A m c, .int .u64 n] w fun e w' => e = .returned (.bool true) ∧ Below w.heap.size w w' := by
  have hm : m ≤ maxLen := Nat.le_trans hl.cap hl.max
  have hmx := hm
  unfold maxLen at hmx
  go_enter Try.func5, Try.ntmps5
  go_wp2_with fail
  refine (awake_any _).mono ?_
  rintro e w1 ⟨rfl, hb⟩
  go_wp2_with fail
  refine (take_short _ _ _ _ _ hm hn).mono ?_
  rintro e w2 ⟨rfl, rfl⟩
  go_wp2_with fail
  go_ret
  exact ⟨rfl, hb⟩
theorem cat_halves (l : List UInt8) (z : Nat) : ((⟨(l.take z).toArray⟩ : ByteArray) ++ ⟨(l.drop z).toArray⟩).toList = l := by
  have : ((⟨(l.take z).toArray⟩ : ByteArray) ++ ⟨(l.drop z).toArray⟩) = ⟨l.toArray⟩ := by
    apply ByteArray.ext; simp
  rw [this]; simp
/-- The first z cells of a row are bytes. -/
def Bytes (cur : Array Value) (z : Nat) : Prop := ∀ j, j < z → ∃ q : Int, cur[j]? = some (.int .u8 q)
theorem Bytes.set_ {cur : Array Value} {z : Nat} (h : Bytes cur z) (i : Nat) (q : Int) : Bytes (cur.setIfInBounds i (.int .u8 q)) z := by
  intro j hj
  rw [Array.getElem?_setIfInBounds]
  by_cases e : i = j
  · subst e
    obtain ⟨q', hq'⟩ := h i hj
    rw [if_pos rfl, if_pos (Array.getElem?_eq_some_iff.1 hq').1]
    exact ⟨q, rfl⟩
  · rw [if_neg e]; exact h j hj
theorem owns_bytes {w : World} {base z : Nat} {v : Value} {l : List UInt8} (h : w.ownsRow base 5 1 v z (bv l)) : z = 0 ∨ ∃ g cap cur, v = .slice (some ⟨g, 0, none⟩) z cap ∧ base ≤ g ∧ Row w g 5 cur ∧ z ≤ cur.size ∧ Bytes cur z := by
  rcases h.2 with ⟨_, rfl⟩ | ⟨g, cap, cur, rfl, hb, hh, hnc, hmx, hsz, htk⟩
  · exact .inl rfl
  · refine .inr ⟨g, cap, cur, rfl, hb, hh, by omega, fun j hj => ?_⟩
    have hl : l.length = z := by have := h.1; rw [bv_len] at this; omega
    have h1 : (cur.toList.take (z * 1))[j]? = some (.int .u8 (l[j].toNat : Int)) := by rw [htk]; exact bv_at l j (by omega)
    rw [List.getElem?_take, if_pos (by omega)] at h1
    exact ⟨_, by simpa using h1⟩
set_option maxHeartbeats 800000 in
theorem takes_any {A : Option Addr} {m c : Nat} {l : List UInt8} (n : Int) (w : World) (hl : BS w w.heap.size A m c l) (h0 : 0 ≤ n) (hn : n ≤ m) (hbd : c ≤ 140737488351232) :
    Calls Try.prog 5 #[.slice A m c, .int .u64 n] w fun e w' => e = .returned (.bool true) ∧ Below w.heap.size w w' := by
  have hcap := hl.cap
  obtain ⟨z, rfl⟩ := Int.eq_ofNat_of_zero_le h0
  have i1 : (z : Int) ≤ (m : Int) := by omega
  have hap : l.take z ++ l.drop z = l := List.take_append_drop z l
  have HA := Lib.hid hap
  clear hap
  go_enter Try.func5, Try.ntmps5
  go_wp2_with fail
  refine (awake_any _).mono ?_
  rintro e w1 ⟨rfl, hb⟩
  have hl1 := hl.below hb
  go_wp2_with fail
  refine (take_any _ _ (hl1.more hb.size) h0 hn (by omega)).mono ?_
  rintro e w2 ⟨v, A2, rfl, hown, hbs2, hb2⟩
  rw [Int.toNat_natCast] at hown hbs2
  rw [Int.toNat_natCast]
  obtain ⟨A3, c3, rfl, hbs3⟩ := BS.of_own hown
  have s1 := str_now hbs3
  have s2 := str_now hbs2
  have s3 := str_now ((hl1.more hb.size).below hb2)
  have hL : ¬ 9223372036854775807 < min z l.length + (l.length - z) := by have := hl.len; omega
  have hC := cat_halves l z
  have hlw : BS w2 w1.heap.size A m c l := (hl1.more hb.size).below hb2
  rcases owns_bytes hown with hz | ⟨g, cap, cur, hv, hg, hrow, hzs, hby⟩
  · subst hz
    simp only [Nat.sub_zero, List.drop_zero, List.take_zero, Nat.zero_min, Nat.zero_add] at s1 s2 hC hL
    go_wp2_with fail
    go_loopw [10] (fun i wr => i = .int .i64 0 ∧ wr = w2) (fun _ _ => 0)
    case atStart => exact ⟨rfl, rfl⟩
    case round =>
      obtain ⟨rfl, rfl⟩ := hrel
      go_wp2_with fail
      go_ret
      exact ⟨rfl, below_then hb hb2⟩
  · injection hv with hA _ hcc
    subst hA
    subst hcc
    go_wp2_with fail
    go_loopw [10] (fun i wr => ∃ k : Nat, k ≤ z ∧ i = .int .i64 k ∧ ∃ cur, Row wr g 5 cur ∧ Bytes cur z ∧ Below w1.heap.size w1 wr) (fun i _ => z - (intOf i).toNat)
    case atStart => exact ⟨0, Nat.zero_le _, rfl, cur, hrow, hby, hb2⟩
    case round =>
      obtain ⟨k, hk, rfl, cu, hr, hbu, hbr⟩ := hrel
      have s4 := str_now ((hl1.more hb.size).below hbr)
      by_cases hlt : k < z
      · obtain ⟨q, hq⟩ := hbu k hlt
        have hck : wr.cell? ⟨g, k, none⟩ = some (.int .u8 q) := by rw [hr.cell, hq]
        have hfk := hr.frozen k
        go_wp2_with fail
        exact ⟨⟨k + 1, by omega, by go_num, _, hr.set_ _ _, hbu.set_ _ _, hbr.setCell (by exact hg) _⟩, by simp [intOf]; omega⟩
      · go_wp2_with fail
        go_ret
        exact ⟨rfl, below_then hb hbr⟩
theorem takes_all {A : Option Addr} {m c : Nat} {l : List UInt8} (n : Int) (w : World) (hl : BS w w.heap.size A m c l) (h0 : 0 ≤ n) (hbd : c ≤ 140737488351232) :
    Calls Try.prog 5 #[.slice A m c, .int .u64 n] w fun e w' => e = .returned (.bool true) ∧ Below w.heap.size w w' := by
  by_cases h : (m : Int) < n
  · exact takes_short n w hl h
  · exact takes_any n w hl h0 (by omega) hbd
end Go.Proofs.Ytkjgaibkajafaaa
