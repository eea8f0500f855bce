/- routing.Key: what it computes, of at most 100 parts. -/
import Derived.Test.YtapekipfkghdhaaKA
import Derived.Test.YtapekipfkghdhaaWS
import Derived.Test.YtapekipfkghdhaaMT
namespace Go.Proofs.Ytapekipfkghdhaa
open Go.RowKit
/-- The key of several parts. -/
def keyL (ps : List Part) : List UInt8 := ps.flatMap fun p => putB (p.n : Int) 2 ++ (p.l ++ [0])
/-- The error of a key. -/
def keyE (ps : List Part) : Int := if ps.length = 0 then 1 else if ps.length = 1 then 0 else if tooLong ps then 12 else 0
/-- The bytes of a key. -/
def keyB (ps : List Part) : List UInt8 := if ps.length = 0 then [] else if ps.length = 1 then (ps.map (·.l)).flatten else if tooLong ps then [] else keyL ps
theorem own_blk' {w : World} {base e n : Nat} {v : Value} {xs : List Value} (h : w.ownsRow base e 1 v n xs) : ∀ k, v.ownBlock = some k → base ≤ k := fun k hk => (h.lt k hk).1
theorem own_below {w w' : World} {base n : Nat} {v : Value} {xs : List Value} {e : TypeId} {size : Nat} (h : w.ownsRow base e size v n xs) (hb : Below w.heap.size w w') : w'.ownsRow base e size v n xs := by
  obtain ⟨h1, h2⟩ := h
  refine ⟨h1, ?_⟩
  rcases h2 with h2 | ⟨g, cap, cur, hv, hg, hk, hr⟩
  · exact .inl h2
  · exact .inr ⟨g, cap, cur, hv, hg, (hb.block g (Array.getElem?_eq_some_iff.1 hk).1).trans hk, hr⟩
theorem not_long {ps : List Part} (h : tooLong ps = false) (k : Nat) (hk : k < ps.length) : ps[k].n ≤ 65535 := by
  by_cases hx : (65535 : Int) < ps[k].n
  · rw [tooLong_of hx] at h; cases h
  · omega
theorem keyL_take (ps : List Part) (k : Nat) (h : k < ps.length) : keyL (ps.take (k + 1)) = keyL (ps.take k) ++ (putB (ps[k].n : Int) 2 ++ (ps[k].l ++ [0])) := by
  rw [List.take_succ_eq_append_getElem h]
  unfold keyL
  rw [List.flatMap_append, List.flatMap_singleton]
theorem key_none (A : Option Addr) (c : Nat) (w : World) : Calls Try.prog 20 #[.slice A 0 c] w fun e w' => e = .returned (.tuple #[.slice none 0 0, .int .i64 1]) ∧ w = w' := by
  go_enter Try.func20, Try.ntmps20
  go_wp2_with fail
  go_ret2
  exact ⟨rfl, rfl⟩
theorem key_one {g o c : Nat} {B : Nat} {ps : List Part} (w : World) (hp : PartsO w B g o ps) (h1 : ps.length = 1) (hB : B ≤ w.heap.size) (hn : ∀ k (h : k < ps.length), ps[k].n ≤ 140737488355328) : Calls Try.prog 20 #[.slice (some ⟨g, o, none⟩) 1 c] w fun e w' => ∃ v N, e = .returned (.tuple #[v, .int .i64 0]) ∧ w'.ownsRow w.heap.size 5 1 v N (bv (ps.map (·.l)).flatten) ∧ Below w.heap.size w w' := by
  obtain ⟨p, rfl⟩ : ∃ p, ps = [p] := List.length_eq_one_iff.1 h1
  have hc := hp.cell 0 (by simp)
  have hb := hp.bs 0 (by simp)
  have hn' := hn 0 (by simp)
  obtain ⟨A1, n1, c1, l1⟩ := p
  simp only [List.getElem_cons_zero, Nat.add_zero] at hc hb hn'
  clear hn h1 hp
  go_enter Try.func20, Try.ntmps20
  go_wp2_with fail
  refine (clone_any _ hb hB hn').mono ?_
  rintro e w1 ⟨v, rfl, hown, hb1⟩
  go_wp2_with fail
  go_ret2
  exact ⟨_, _, rfl, by simpa using hown, hb1⟩
theorem key_long {g o c m : Nat} {B : Nat} {ps : List Part} (w : World) (hp : PartsO w B g o ps) (hm : m = ps.length) (h2 : 2 ≤ ps.length) (hmx : ps.length ≤ 100) (hlong : tooLong ps = true) : Calls Try.prog 20 #[.slice (some ⟨g, o, none⟩) m c] w fun e w' => e = .returned (.tuple #[.slice none 0 0, .int .i64 12]) ∧ w = w' := by
  subst hm
  go_enter Try.func20, Try.ntmps20
  go_wp2_with fail
  refine (contf_any _ hp rfl (by omega)).mono ?_
  rintro e w1 ⟨rfl, rfl⟩
  rw [hlong]
  go_wp2_with fail
  go_ret2
  exact ⟨rfl, rfl⟩
set_option maxRecDepth 20000 in
set_option maxHeartbeats 1600000 in
theorem key_many {g o c m : Nat} {B : Nat} {ps : List Part} (w : World) (hp : PartsO w B g o ps) (hg : g < B) (hB : B ≤ w.heap.size) (hm : m = ps.length) (h2 : 2 ≤ ps.length) (hmx : ps.length ≤ 100) (hlong : tooLong ps = false) : Calls Try.prog 20 #[.slice (some ⟨g, o, none⟩) m c] w fun e w' => ∃ v N, e = .returned (.tuple #[v, .int .i64 0]) ∧ w'.ownsRow w.heap.size 5 1 v N (bv (keyL ps)) ∧ Below w.heap.size w w' := by
  subst hm
  have hnl := not_long hlong
  go_enter Try.func20, Try.ntmps20
  go_wp2_with fail
  refine (contf_any _ hp rfl (by omega)).mono ?_
  rintro e w1 ⟨rfl, rfl⟩
  rw [hlong]
  go_wp2_with fail
  go_loopw [4, 21] (fun v i wr => ∃ (k N : Nat), k ≤ ps.length ∧ i = .int .i64 k ∧ N ≤ 65538 * k ∧ wr.ownsRow w.heap.size 5 1 v N (bv (keyL (ps.take k))) ∧ Below w.heap.size w wr) (fun _ i _ => ps.length - (intOf i).toNat)
  case atStart => exact ⟨0, 0, Nat.zero_le _, rfl, Nat.le_refl _, World.ownsRow_nil _ _ _ _, Below.refl _ _⟩
  case round =>
    obtain ⟨k, N, hk, rfl, hN, hown, hb⟩ := hrel
    by_cases hlt : k < ps.length
    · have hbB : Below B w wr := hb.mono hB
      have hck := (hp.below hbB hg).cell k hlt
      have hbk := (hp.below hbB hg).bs k hlt
      have hnk := hnl k hlt
      have hkt := keyL_take ps k hlt
      obtain ⟨p, hpk⟩ : ∃ p, ps[k] = p := ⟨_, rfl⟩
      rw [hpk] at hck hbk hnk hkt
      obtain ⟨A1, n1, c1, l1⟩ := p
      simp only at hck hbk hnk hkt
      have HKT := Lib.hid hkt
      clear hkt hpk
      obtain ⟨A0, c0, rfl, sw0⟩ := SW.of_own hown
      have hBr : B ≤ wr.heap.size := Nat.le_trans hB hb.size
      go_wp2_with fail
      refine (put_any (n1 : Int) 2 _ (by omega) (by omega)).mono ?_
      rintro e w2 ⟨v2, rfl, hown2, hb2⟩
      have hown2 : w2.ownsRow wr.heap.size 5 1 v2 2 (bv (putB (n1 : Int) 2)) := hown2
      obtain ⟨A2, c2, rfl, sw2⟩ := SW.of_own hown2
      have sw02 : SW w2 A0 N c0 (keyL (ps.take k)) := sw0.then_ hb2
      have swk : SW w2 A1 n1 c1 l1 := BS.more ((hbk.below (hb2.mono hBr))) (Nat.le_trans hBr hb2.size)
      have hz : SW (w2.alloc (.cells #[.int .u8 0] 5)) (some ⟨w2.heap.size, 0, none⟩) 1 1 [0] := SW.lit w2 5 _ _ [0] rfl rfl 1 rfl (by decide)
      have hba : Below w2.heap.size w2 (w2.alloc (.cells #[.int .u8 0] 5)) := below_new (Below.refl _ _) _
      go_wp2_with fail
      refine (concat4 _ 22 _ (by simp) (sw02.then_ hba) (sw2.then_ hba) (swk.then_ hba) hz (by omega)).mono ?_
      rintro e w3 ⟨v3, rfl, hown3, hb3⟩
      rw [← HKT.out] at hown3
      go_wp2_with fail
      have h13 := below_then (below_then hb2 hba) hb3
      exact ⟨⟨k + 1, N + 2 + n1 + 1, by omega, by go_num, by omega, owns_mono hown3 (Nat.le_trans hb.size (below_then hb2 hba).size), below_then hb h13⟩, by simp [intOf]; omega⟩
    · obtain rfl : k = ps.length := by omega
      rw [List.take_length] at hown
      go_wp2_with fail
      go_ret2
      exact ⟨_, _, rfl, hown, hb⟩
/-- All of it, by the parts' own key. -/
theorem key_any {A : Option Addr} {n c : Nat} {ps : List Part} (w : World) (hps : PS w w.heap.size A n c ps) (hmx : n ≤ 100) (hn : ∀ k (h : k < ps.length), ps[k].n ≤ 140737488355328) :
    Calls Try.prog 20 #[.slice A n c] w fun e w' => ∃ v N, e = .returned (.tuple #[v, .int .i64 (keyE ps)]) ∧ w'.ownsRow w.heap.size 5 1 v N (bv (keyB ps)) ∧ Below w.heap.size w w' := by
  have hl := hps.len
  rcases Nat.lt_or_ge n 1 with h0 | h0
  · obtain rfl : n = 0 := by omega
    refine (key_none A c w).mono ?_
    rintro e w' ⟨rfl, rfl⟩
    exact ⟨_, 0, by unfold keyE; rw [if_pos hl], by unfold keyB; rw [if_pos hl]; exact World.ownsRow_nil _ _ _ _, Below.refl _ _⟩
  · obtain ⟨g, o, rfl, hg, hp⟩ := hps.at_ h0
    by_cases h1 : n = 1
    · subst h1
      refine (key_one w hp hl (Nat.le_refl _) hn).mono ?_
      rintro e w' ⟨v, N, rfl, ho, hb⟩
      exact ⟨v, N, by unfold keyE; rw [if_neg (by omega), if_pos hl], by unfold keyB; rw [if_neg (by omega), if_pos hl]; exact ho, hb⟩
    · cases ht : tooLong ps with
      | true =>
        refine (key_long w hp hl.symm (by omega) (by omega) ht).mono ?_
        rintro e w' ⟨rfl, rfl⟩
        exact ⟨_, 0, by unfold keyE; rw [if_neg (by omega), if_neg (by omega), if_pos ht], by unfold keyB; rw [if_neg (by omega), if_neg (by omega), if_pos ht]; exact World.ownsRow_nil _ _ _ _, Below.refl _ _⟩
      | false =>
        refine (key_many w hp hg (Nat.le_refl _) hl.symm (by omega) (by omega) ht).mono ?_
        rintro e w' ⟨v, N, rfl, ho, hb⟩
        exact ⟨v, N, by unfold keyE; rw [if_neg (by omega), if_neg (by omega), if_neg (by rw [ht]; simp)], by unfold keyB; rw [if_neg (by omega), if_neg (by omega), if_neg (by rw [ht]; simp)]; exact ho, hb⟩
end Go.Proofs.Ytapekipfkghdhaa
