/- octets.size and octets.Put: what they compute, all inputs. No condition but that x fits its kind. -/
import Derived.Test.YtiehhoonfneccaaOA
namespace Go.Proofs.Ytiehhoonfneccaa
open Go.RowKit
theorem size_any (n : Int) (w : World) : Calls Try.prog 40 #[.int .i64 n] w fun e w' => e = .returned (.bool (decide (1 ≤ n) && decide (n ≤ 8))) ∧ w = w' := by
  go_enter Try.func40, Try.ntmps40
  go_wp2
  all_goals go_ret
  all_goals refine ⟨ret_bool ?_, rfl⟩
  all_goals simp_all
  all_goals omega
theorem size_yes (n : Int) (w : World) (h : 1 ≤ n) (h' : n ≤ 8) : Calls Try.prog 40 #[.int .i64 n] w fun e w' => e = .returned (.bool true) ∧ w = w' :=
  (size_any n w).mono fun _ _ ⟨a, b⟩ => ⟨a.trans (by simp [h, h']), b⟩
theorem size_no (n : Int) (w : World) (h : ¬ (1 ≤ n ∧ n ≤ 8)) : Calls Try.prog 40 #[.int .i64 n] w fun e w' => e = .returned (.bool false) ∧ w = w' :=
  (size_any n w).mono fun _ _ ⟨a, b⟩ => ⟨a.trans (by rw [← Bool.decide_and]; simp [h]), b⟩
theorem put_no (x n : Int) (w : World) (h : ¬ (1 ≤ n ∧ n ≤ 8)) : Calls Try.prog 33 #[.int .u64 x, .int .i64 n] w fun e w' => e = .returned (.slice none 0 0) ∧ w = w' := by
  go_enter Try.func33, Try.ntmps33
  go_wp2_with fail
  refine (size_no _ _ h).mono ?_
  rintro e w' ⟨rfl, rfl⟩
  go_wp2_with fail
  go_ret
  exact ⟨rfl, rfl⟩
theorem put_step {w wr : World} {x : Int} {m k : Nat} {g : Nat} {cur : Array Value} (hg : w.heap.size ≤ g) (hr : Row wr g 5 cur) (hs : cur.size = m) (hk : k < m)
    (hc : ∀ j, m - k ≤ j → j < m → cur[j]? = some (.int .u8 (dig x (m - 1 - j)))) (hb : Below w.heap.size w wr) :
    ∃ cur', Row (wr.setCell ⟨g, m - 1 - k, none⟩ (.int .u8 (dig x k))) g 5 cur' ∧ cur'.size = m ∧ (∀ j, m - (k + 1) ≤ j → j < m → cur'[j]? = some (.int .u8 (dig x (m - 1 - j)))) ∧
      Below w.heap.size w (wr.setCell ⟨g, m - 1 - k, none⟩ (.int .u8 (dig x k))) := by
  refine ⟨_, hr.set_ _ _, by simp [hs], fun j h1 h2 => ?_, hb.setCell (by exact hg) _⟩
  rw [Array.getElem?_setIfInBounds]
  by_cases e : m - 1 - k = j
  · rw [if_pos e, if_pos (by omega), show m - 1 - j = k from by omega]
  · rw [if_neg e]; exact hc j (by omega) h2
theorem put_end {w wr : World} {x : Int} {m : Nat} {g : Nat} {cur : Array Value} (hg : w.heap.size ≤ g) (hr : Row wr g 5 cur) (hs : cur.size = m) (hm : m ≤ 8)
    (hc : ∀ j, m - m ≤ j → j < m → cur[j]? = some (.int .u8 (dig x (m - 1 - j)))) : wr.ownsRow w.heap.size 5 1 (.slice (some ⟨g, 0, none⟩) m m) m (bv (putB x m)) := by
  have h := hr.owns hg (n := m) (by omega) (by unfold maxLen; omega)
  rw [hs] at h
  have e : cur.toList.take m = bv (putB x m) := by
    rw [List.take_of_length_le (by simp [hs])]
    apply List.ext_getElem?
    intro j
    by_cases hj : j < m
    · rw [Array.getElem?_toList, hc j (by omega) hj]
      simp [bv, putB, hj, dg_val]
    · rw [List.getElem?_eq_none (by simp [hs]; omega), List.getElem?_eq_none (by rw [bv_len, putB_len]; omega)]
  rw [e] at h
  exact h
set_option maxHeartbeats 400000 in
theorem put_any (x n : Int) (w : World) (h1 : 1 ≤ n) (h8 : n ≤ 8) :
    Calls Try.prog 33 #[.int .u64 x, .int .i64 n] w fun e w' => ∃ v, e = .returned v ∧ w'.ownsRow w.heap.size 5 1 v n.toNat (bv (putB x n.toNat)) ∧ Below w.heap.size w w' := by
  obtain ⟨m, rfl⟩ := Int.eq_ofNat_of_zero_le (show 0 ≤ n by omega)
  obtain ⟨i0, hi, hz0, hz1, hz2⟩ := info_parts info_byte
  have hmk := run_makeB (P := Try.prog) 27 5 i0 Try.underlying27 hi hz0 hz1 hz2 .i64 .i64 m (by omega)
  go_enter Try.func33, Try.ntmps33
  go_wp2_with fail
  refine (size_yes _ _ h1 h8).mono ?_
  rintro e w' ⟨rfl, rfl⟩
  go_wp2_with fail
  go_loopw [13] (fun i wr => ∃ k : Nat, k ≤ m ∧ i = .int .i64 k ∧ ∃ cur : Array Value, Row wr w.heap.size 5 cur ∧ cur.size = m ∧
      (∀ j, m - k ≤ j → j < m → cur[j]? = some (.int .u8 (dig x (m - 1 - j)))) ∧ Below w.heap.size w wr) (fun i _ => m - (intOf i).toNat)
  case atStart => exact ⟨0, Nat.zero_le _, rfl, zer m, Row.new _ _ _, zer_size m, fun j h1 h2 => by omega, below_new (Below.refl _ _) _⟩
  case round =>
    obtain ⟨k, hk, rfl, cur, hr, hs, hc, hb⟩ := hrel
    by_cases hlt : k < m
    · have hcell : ∃ v, wr.cell? ⟨w.heap.size, m - 1 - k, none⟩ = some v := ⟨_, by rw [hr.cell]; exact Array.getElem?_eq_getElem (by omega)⟩
      obtain ⟨v, hv⟩ := hcell
      have hfz := hr.frozen (m - 1 - k)
      go_wp2_with fail
      rw [dig_pow]
      obtain ⟨cur', a, b, c, d⟩ := put_step (Nat.le_refl _) hr hs hlt hc hb
      exact ⟨⟨k + 1, by omega, by go_num, cur', a, b, c, d⟩, by simp [intOf]; omega⟩
    · obtain rfl : k = m := by omega
      go_wp2_with fail
      go_ret
      exact ⟨_, rfl, by rw [Int.toNat_natCast]; exact put_end (Nat.le_refl _) hr hs (by omega) hc, hb⟩
end Go.Proofs.Ytiehhoonfneccaa
