/- routing.Parts' closure. Where the bytes' memory takes at most 2^47. -/
import Derived.Test.YtapekipfkghdhaaPT
namespace Go.Proofs.Ytapekipfkghdhaa
open Go.RowKit
set_option maxHeartbeats 400000 in
theorem take_b {B : Nat} {A : Option Addr} {m c : Nat} {l : List UInt8} (n : Int) (w : World) (hl : BS w B A m c l) (hB : B ≤ w.heap.size) (h0 : 0 ≤ n) (h : n ≤ m) (hb : m ≤ 140737488355328) :
    Calls Try.prog 45 #[.slice A m c, .int .u64 n] w fun e w' => ∃ v A', e = .returned (.tuple #[v, .slice A' (m - n.toNat) (c - n.toNat), .int .i64 0]) ∧ w'.ownsRow w.heap.size 5 1 v n.toNat (bv (l.take n.toNat)) ∧ BS w' B A' (m - n.toNat) (c - n.toNat) (l.drop n.toNat) ∧ Below w.heap.size w w' := by
  obtain ⟨z, rfl⟩ := Int.eq_ofNat_of_zero_le h0
  rw [Int.toNat_natCast]
  have hcap := hl.cap
  have hmx := hl.max
  unfold maxLen at hmx
  have HU := Lib.hid (hl.upto (k := z) (by omega))
  have hF := hl.from_ (k := z) (by omega)
  have i0 : (0 : Int) ≤ (z : Int) := by omega
  have i1 : (z : Int) ≤ (m : Int) := by omega
  have i2 : (z : Int) ≤ (c : Int) := by omega
  by_cases hcz : c = z
  · obtain rfl : m = z := by omega
    obtain rfl : c = m := by omega
    rw [if_pos rfl] at hF
    have HF := Lib.hid hF
    clear hl hF
    go_enter Try.func45, Try.ntmps45
    go_wp2_with fail
    go_region_held3 (fun w' => Below w.heap.size w w') (first | exact (Below.refl _ _).drew | assumption | exact below_then (by assumption) (by assumption))
      (first | (go_at_call 39; refine (clone_any _ (HU.out.below (Below.mono (by assumption) hB)) (Nat.le_trans hB (Below.size (by assumption))) (by omega)).mono ?_; rintro e w' ⟨v, rfl, hown, hbl⟩))
    go_wp2_with fail
    go_ret3
    have hbw : Below w.heap.size w w' := by assumption
    exact ⟨_, _, by simp; rfl, hown, by simpa using HF.out.below (hbw.mono hB), hbw⟩
  · rw [if_neg hcz] at hF
    have HF := Lib.hid hF
    clear hl hF
    go_enter Try.func45, Try.ntmps45
    go_wp2_with fail
    go_region_held3 (fun w' => Below w.heap.size w w') (first | exact (Below.refl _ _).drew | assumption | exact below_then (by assumption) (by assumption))
      (first | (go_at_call 39; refine (clone_any _ (HU.out.below (Below.mono (by assumption) hB)) (Nat.le_trans hB (Below.size (by assumption))) (by omega)).mono ?_; rintro e w' ⟨v, rfl, hown, hbl⟩))
    go_wp2_with fail
    go_ret3
    have hbw : Below w.heap.size w w' := by assumption
    exact ⟨_, _, rfl, hown, HF.out.below (hbw.mono hB), hbw⟩
theorem cap_short {p q : Nat} {A : Option Addr} {m c : Nat} (n : Int) (w : World) (hp : Row w p 22 #[.slice A m c]) (hq : Row w q 34 #[.int .i64 0]) (hm : m ≤ maxLen) (h : (m : Int) < n) :
    Calls Try.prog 44 #[.int .u64 n, .pointer (some ⟨p, 0, none⟩), .pointer (some ⟨q, 0, none⟩)] w fun e w' => e = .returned (.slice none 0 0) ∧ w' = (w.setCell ⟨p, 0, none⟩ (.slice none 0 0)).setCell ⟨q, 0, none⟩ (.int .i64 10) := by
  have p0 : w.cell? ⟨p, 0, none⟩ = some (.slice A m c) := hp.cell 0
  have q0 : w.cell? ⟨q, 0, none⟩ = some (.int .i64 0) := hq.cell 0
  have p1 := hp.frozen 0
  have q1 := hq.frozen 0
  have hne : p ≠ q := fun e => by
    subst e
    unfold Row at hp hq
    rw [hp] at hq
    simp at hq
  go_enter Try.func44, Try.ntmps44
  go_wp2_with fail
  refine (take_short A m c n _ hm h).mono ?_
  rintro e w1 ⟨rfl, rfl⟩
  go_wp2_with fail
  go_ret
  exact ⟨rfl, rfl⟩
theorem cap_ok {p q B : Nat} {A : Option Addr} {m c : Nat} {l : List UInt8} (n : Int) (w : World) (hp : Row w p 22 #[.slice A m c]) (hq : Row w q 34 #[.int .i64 0]) (hl : BS w B A m c l) (hB : B ≤ w.heap.size) (h0 : 0 ≤ n) (h : n ≤ m) (hm : m ≤ 140737488355328) :
    Calls Try.prog 44 #[.int .u64 n, .pointer (some ⟨p, 0, none⟩), .pointer (some ⟨q, 0, none⟩)] w fun e w' => ∃ v A' w1, e = .returned v ∧ w1.ownsRow w.heap.size 5 1 v n.toNat (bv (l.take n.toNat)) ∧ BS w1 B A' (m - n.toNat) (c - n.toNat) (l.drop n.toNat) ∧ Below w.heap.size w w1 ∧
      w' = (w1.setCell ⟨p, 0, none⟩ (.slice A' (m - n.toNat) (c - n.toNat))).setCell ⟨q, 0, none⟩ (.int .i64 0) := by
  have p0 : w.cell? ⟨p, 0, none⟩ = some (.slice A m c) := hp.cell 0
  have hne : p ≠ q := fun e => by
    subst e
    unfold Row at hp hq
    rw [hp] at hq
    simp at hq
  go_enter Try.func44, Try.ntmps44
  go_wp2_with fail
  refine (take_b n _ hl hB h0 h hm).mono ?_
  rintro e w1 ⟨v, A', rfl, hown, hbs, hb⟩
  have hp1 := hp.below hb hp.lt
  have hq1 := hq.below hb hq.lt
  have p1 : w1.cell? ⟨p, 0, none⟩ = some (.slice A m c) := hp1.cell 0
  have q1 : w1.cell? ⟨q, 0, none⟩ = some (.int .i64 0) := hq1.cell 0
  have p2 := hp1.frozen 0
  have q2 := hq1.frozen 0
  go_wp2_with fail
  go_ret
  exact ⟨_, _, _, rfl, hown, hbs, hb, rfl⟩
end Go.Proofs.Ytapekipfkghdhaa
