/- murmur.rest: the whole of it, for every length below 16. -/
import Derived.Test.YtapekipfkghdhaaRT
import Derived.Deep.CutBlock
namespace Go.Proofs.Ytapekipfkghdhaa
open Go.RowKit
def KV (l : List UInt8) (k : Nat) : Int := xd (ss ((l.take 8).drop k) k)
def MV (l : List UInt8) (k : Nat) : Int := if k ≤ 8 then mOf l else xd (ss (l.drop k) (k - 8))
theorem xd_cons (b : UInt8) (l : List UInt8) (j : Nat) : xd (ss (b :: l) j) = xr (xd (ss l (j + 1))) (sx b j) := rfl
theorem drop_at (l : List UInt8) (k : Nat) (h : k < l.length) : l.drop k = l[k] :: l.drop (k + 1) := List.drop_eq_getElem_cons h
theorem KV_step (l : List UInt8) (k : Nat) (h : k < l.length) (h8 : k < 8) : KV l k = xr (KV l (k + 1)) (sx l[k] k) := by
  unfold KV
  rw [drop_at (l.take 8) k (by rw [List.length_take]; omega), xd_cons]
  simp
theorem KV_end (l : List UInt8) (k : Nat) (h : l.length ≤ k ∨ 8 ≤ k) : KV l k = 0 := by
  unfold KV
  rw [List.drop_of_length_le (by rw [List.length_take]; omega)]
  rfl
theorem MV_lo (l : List UInt8) (k : Nat) (h : k < 8) : MV l k = MV l (k + 1) := by
  unfold MV
  rw [if_pos (by omega), if_pos (by omega)]
theorem MV_8 (l : List UInt8) (h : 8 < l.length) : MV l 8 = snd (xr (MV l 9) (sx l[8] 0)) := by
  unfold MV mOf
  rw [if_pos (by omega), if_neg (by omega), if_neg (by omega), drop_at l 8 h, xd_cons]
theorem MV_hi (l : List UInt8) (k : Nat) (h8 : 8 < k) (h : k < l.length) : MV l k = xr (MV l (k + 1)) (sx l[k] (k - 8)) := by
  unfold MV
  rw [if_neg (by omega), if_neg (by omega), drop_at l k h, xd_cons, show k - 8 + 1 = k + 1 - 8 from by omega]
theorem MV_end (l : List UInt8) (k : Nat) (h : l.length ≤ k) : MV l k = 0 := by
  unfold MV
  split
  · unfold mOf
    rw [if_pos (by omega)]
  · rw [List.drop_of_length_le h]
    rfl
theorem bk_eq : ∀ k, k < 15 → bk k = .block (if k = 0 then 0 else 16 - k) (.seq (bk (k + 1)) (aft (bk k))) := by
  intro k hk
  match k, hk with
  | 0, _ => exact rfl
  | 1, _ => exact rfl
  | 2, _ => exact rfl
  | 3, _ => exact rfl
  | 4, _ => exact rfl
  | 5, _ => exact rfl
  | 6, _ => exact rfl
  | 7, _ => exact rfl
  | 8, _ => exact rfl
  | 9, _ => exact rfl
  | 10, _ => exact rfl
  | 11, _ => exact rfl
  | 12, _ => exact rfl
  | 13, _ => exact rfl
  | 14, _ => exact rfl
theorem bk_15 : bk 15 = .block 1 (.seq (inn (bk 15)) (.exit 0)) := rfl
section
variable {w : World} {B : Nat} {A : Option Addr} {n c : Nat} {l : List UInt8}
theorem codes (hl : BS w B A n c l) : ∀ k, 1 ≤ k → k < 15 → k < n → ∀ a, Fr (.slice A n c) (KV l (k + 1)) (MV l (k + 1)) a →
    (aft (bk k)).wp Try.prog (fun e a' w' => e = .normal ∧ w' = w ∧ Fr (.slice A n c) (KV l k) (MV l k) a') a w := by
  intro k h1 h15 hkn a ha
  have hlen := hl.len
  have hlk : k < l.length := by omega
  have hb : l[k]? = some l[k] := List.getElem?_eq_getElem hlk
  match k, h1, h15 with
  | 1, _, _ => rw [KV_step l 1 hlk (by omega), MV_lo l 1 (by omega)]; exact code_1 hl _ hkn hb _ _ ha
  | 2, _, _ => rw [KV_step l 2 hlk (by omega), MV_lo l 2 (by omega)]; exact code_2 hl _ hkn hb _ _ ha
  | 3, _, _ => rw [KV_step l 3 hlk (by omega), MV_lo l 3 (by omega)]; exact code_3 hl _ hkn hb _ _ ha
  | 4, _, _ => rw [KV_step l 4 hlk (by omega), MV_lo l 4 (by omega)]; exact code_4 hl _ hkn hb _ _ ha
  | 5, _, _ => rw [KV_step l 5 hlk (by omega), MV_lo l 5 (by omega)]; exact code_5 hl _ hkn hb _ _ ha
  | 6, _, _ => rw [KV_step l 6 hlk (by omega), MV_lo l 6 (by omega)]; exact code_6 hl _ hkn hb _ _ ha
  | 7, _, _ => rw [KV_step l 7 hlk (by omega), MV_lo l 7 (by omega)]; exact code_7 hl _ hkn hb _ _ ha
  | 8, _, _ => rw [KV_end l 8 (by omega), MV_8 l hlk, ← KV_end l 9 (by omega)]; exact code_8 hl _ hkn hb _ _ ha
  | 9, _, _ => rw [KV_end l 9 (by omega), MV_hi l 9 (by omega) hlk, ← KV_end l 10 (by omega)]; exact code_9 hl _ hkn hb _ _ ha
  | 10, _, _ => rw [KV_end l 10 (by omega), MV_hi l 10 (by omega) hlk, ← KV_end l 11 (by omega)]; exact code_10 hl _ hkn hb _ _ ha
  | 11, _, _ => rw [KV_end l 11 (by omega), MV_hi l 11 (by omega) hlk, ← KV_end l 12 (by omega)]; exact code_11 hl _ hkn hb _ _ ha
  | 12, _, _ => rw [KV_end l 12 (by omega), MV_hi l 12 (by omega) hlk, ← KV_end l 13 (by omega)]; exact code_12 hl _ hkn hb _ _ ha
  | 13, _, _ => rw [KV_end l 13 (by omega), MV_hi l 13 (by omega) hlk, ← KV_end l 14 (by omega)]; exact code_13 hl _ hkn hb _ _ ha
  | 14, _, _ => rw [KV_end l 14 (by omega), MV_hi l 14 (by omega) hlk, ← KV_end l 15 (by omega)]; exact code_14 hl _ hkn hb _ _ ha
/-- Where the switch goes. -/
def goes (n : Nat) : Nat := if n = 0 then 0 else 16 - n
theorem tests {s : Value} (n : Nat) (hn : n < 16) {a : Act} (ha : Fr s 0 0 a) (h7 : a.tmps.getD 7 undef = .int .i64 n) :
    (inn (bk 15)).wp Try.prog (fun e a' w' => e = (if n = 0 then Exit.normal else .exit (16 - n)) ∧ w' = w ∧ Fr s 0 0 a') a w := by
  match n, hn, h7 with
  | 0, _, h7 => exact test_0 ha h7
  | 1, _, h7 => exact test_1 ha h7
  | 2, _, h7 => exact test_2 ha h7
  | 3, _, h7 => exact test_3 ha h7
  | 4, _, h7 => exact test_4 ha h7
  | 5, _, h7 => exact test_5 ha h7
  | 6, _, h7 => exact test_6 ha h7
  | 7, _, h7 => exact test_7 ha h7
  | 8, _, h7 => exact test_8 ha h7
  | 9, _, h7 => exact test_9 ha h7
  | 10, _, h7 => exact test_10 ha h7
  | 11, _, h7 => exact test_11 ha h7
  | 12, _, h7 => exact test_12 ha h7
  | 13, _, h7 => exact test_13 ha h7
  | 14, _, h7 => exact test_14 ha h7
  | 15, _, h7 => exact test_15 ha h7
  | m + 16, h, _ => exact absurd h (by omega)
theorem pass {s : Value} (n : Nat) (hn : n < 16) {a : Act} (ha : Fr s 0 0 a) (h7 : a.tmps.getD 7 undef = .int .i64 n) : ∀ j k, k + j = 15 → n < k → 
    (bk k).wp Try.prog (fun e a' w' => e = .exit (goes n) ∧ w' = w ∧ Fr s 0 0 a') a w := by
  intro j
  induction j with
  | zero =>
    intro k hk hnk
    obtain rfl : k = 15 := by omega
    rw [bk_15]
    refine wp_block (wp_seq (wp_mono (tests n hn ha h7) ?_))
    rintro e a' w' ⟨he, rfl, hF⟩
    by_cases h0 : n = 0
    · subst h0
      obtain rfl : e = .normal := he
      exact wp_exit ⟨rfl, rfl, hF⟩
    · rw [if_neg h0] at he
      subst he
      show (if 16 - n = 1 then _ else _)
      rw [if_neg (by omega)]
      exact ⟨by unfold goes; rw [if_neg h0], rfl, hF⟩
  | succ j ih =>
    intro k hk hnk
    rw [bk_eq k (by omega)]
    refine wp_block (wp_seq (wp_mono (ih (k + 1) (by omega) (by omega)) ?_))
    rintro e a' w' ⟨rfl, rfl, hF⟩
    show (if goes n = (if k = 0 then 0 else 16 - k) then _ else _)
    rw [if_neg (by unfold goes; split <;> split <;> omega)]
    exact ⟨rfl, rfl, hF⟩
theorem reach (hl : BS w B A n c l) (hn : n < 16) (h1 : 1 ≤ n) {a : Act} (ha : Fr (.slice A n c) 0 0 a) (h7 : a.tmps.getD 7 undef = .int .i64 n) : ∀ j k, k + j = n → 1 ≤ k →
    (bk k).wp Try.prog (fun e a' w' => e = .normal ∧ w' = w ∧ Fr (.slice A n c) (KV l k) (MV l k) a') a w := by
  intro j
  have hlen := hl.len
  induction j with
  | zero =>
    intro k hk hk1
    obtain rfl : k = n := by omega
    have hK : KV l k = 0 := KV_end l k (by omega)
    have hM : MV l k = 0 := MV_end l k (by omega)
    rw [hK, hM]
    by_cases h15 : k = 15
    · subst h15
      rw [bk_15]
      refine wp_block (wp_seq (wp_mono (tests 15 hn ha h7) ?_))
      rintro e a' w' ⟨rfl, rfl, hF⟩
      exact ⟨rfl, rfl, hF⟩
    · rw [bk_eq k (by omega)]
      refine wp_block (wp_seq (wp_mono (pass k hn ha h7 (15 - (k + 1)) (k + 1) (by omega) (by omega)) ?_))
      rintro e a' w' ⟨rfl, rfl, hF⟩
      show (if goes k = (if k = 0 then 0 else 16 - k) then _ else _)
      rw [if_pos (by unfold goes; rfl)]
      exact ⟨rfl, rfl, hF⟩
  | succ j ih =>
    intro k hk hk1
    rw [bk_eq k (by omega)]
    refine wp_block (wp_seq (wp_mono (ih (k + 1) (by omega) (by omega)) ?_))
    rintro e a' w' ⟨rfl, rfl, hF⟩
    refine wp_mono (codes hl k hk1 (by omega) (by omega) a' hF) ?_
    rintro e a2 w2 ⟨rfl, rfl, hF2⟩
    exact ⟨rfl, rfl, hF2⟩
theorem whole (hl : BS w B A n c l) (hn : n < 16) {a : Act} (ha : Fr (.slice A n c) 0 0 a) (h7 : a.tmps.getD 7 undef = .int .i64 n) :
    (bk 0).wp Try.prog (fun e a' w' => e = .normal ∧ w' = w ∧ Fr (.slice A n c) (kOf l) (mOf l) a') a w := by
  have hlen := hl.len
  rw [bk_eq 0 (by omega)]
  by_cases h0 : n = 0
  · subst h0
    have hK : kOf l = 0 := by unfold kOf; rw [if_pos hlen]
    have hM : mOf l = 0 := by unfold mOf; rw [if_pos (by omega)]
    rw [hK, hM]
    refine wp_block (wp_seq (wp_mono (pass 0 hn ha h7 14 1 (by omega) (by omega)) ?_))
    rintro e a' w' ⟨rfl, rfl, hF⟩
    exact ⟨rfl, rfl, hF⟩
  · refine wp_block (wp_seq (wp_mono (reach hl hn (by omega) ha h7 (n - 1) 1 (by omega) (by omega)) ?_))
    rintro e a' w' ⟨rfl, rfl, hF⟩
    refine wp_mono (code_0 hl (l[0]'(by omega)) (by omega) (List.getElem?_eq_getElem (by omega)) _ _ hF) ?_
    rintro e a2 w2 ⟨rfl, rfl, hF2⟩
    refine ⟨rfl, rfl, ?_⟩
    have hK : kOf l = fst (xr (KV l 1) (sx (l[0]'(by omega)) 0)) := by
      have := KV_step l 0 (by omega) (by omega)
      rw [← this]
      unfold kOf KV
      rw [if_neg (by omega)]
      rfl
    have hM : mOf l = MV l 1 := by unfold MV; rw [if_pos (by omega)]
    rw [hK, hM]
    exact hF2
set_option maxHeartbeats 400000 in
theorem rest_any (w : World) (hl : BS w B A n c l) (hn : n < 16) :
    Calls Try.prog 33 #[.slice A n c] w fun e w' => e = .returned (.tuple #[.int .u64 (kOf l), .int .u64 (mOf l)]) ∧ w = w' := by
  go_enter Try.func33, Try.ntmps33
  go_upto_block 0 with fail
  refine wp_mono (whole (w := w) hl hn (a := _) ?_ ?_) ?_
  · exact ⟨rfl, rfl, rfl, rfl, rfl, rfl, rfl⟩
  · rfl
  · rintro e a' w' ⟨rfl, rfl, hF⟩
    obtain ⟨f, rfl⟩ := hF.form
    clear hF
    go_wp2_with fail
    go_ret2
    exact ⟨rfl, rfl⟩
end
end Go.Proofs.Ytapekipfkghdhaa
