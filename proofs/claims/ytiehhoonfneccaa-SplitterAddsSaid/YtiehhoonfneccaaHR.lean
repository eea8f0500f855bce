/- The document's Get: what it computes, of all bytes. No condition. -/
import Derived.Test.YtiehhoonfneccaaHG
namespace Go.Proofs.Ytiehhoonfneccaa
open Go.RowKit
/-- The number behind 32768 as one below 0. -/
def rS (l : List UInt8) : Int := if 32768 ≤ bI l 2 * 256 + bI l 3 then bI l 2 * 256 + bI l 3 - 65536 else bI l 2 * 256 + bI l 3
theorem wrap_i16' (n : Int) : IntKind.i16.wrap n = (n + 32768) % 65536 - 32768 := by
  simp [IntKind.wrap, IntKind.bits, IntKind.signed]
  split <;> omega
theorem wrap_two {a b : Int} (h0 : 0 ≤ a) (h1 : a < 256) (h2 : 0 ≤ b) (h3 : b < 256) : wrap64 (wrap64 (wrap64 a * 256) + wrap64 b) = a * 256 + b := by unfold wrap64; omega
theorem len_step (l : List UInt8) (j : Nat) (h5 : 5 ≤ j) (h9 : j < 9) (hl : j < l.length) : getV (List.take (j + 1 - 5) (List.drop 5 l)) = (getV (List.take (j - 5) (List.drop 5 l)) * 256 % 4294967296 + bI l j % 4294967296) % 4294967296 := by
  have hk : j - 5 < (l.drop 5).length := by rw [List.length_drop]; omega
  have e : (l.drop 5)[j - 5] = l[j] := by
    rw [List.getElem_drop]
    congr 1
    omega
  have h1 := (getV_bounds (List.take (j - 5) (List.drop 5 l))).1
  have h2 := (getV_bounds (List.take (j + 1 - 5) (List.drop 5 l))).2
  have h3 : (256 : Int) ^ (List.take (j + 1 - 5) (List.drop 5 l)).length ≤ 256 ^ 4 := pow256_mono (by rw [List.length_take]; omega)
  have h4 : (256 : Int) ^ 4 = 4294967296 := rfl
  have hs : getV (List.take (j + 1 - 5) (List.drop 5 l)) = getV (List.take (j - 5) (List.drop 5 l)) * 256 + bI l j := by
    rw [show j + 1 - 5 = j - 5 + 1 from by omega, take_snoc _ _ hk, getV_snoc, e, bI_at hl]
  have := bI_lo l j
  have := bI_hi l j
  omega
theorem hS_eq (l : List UInt8) (h : 4 ≤ l.length) : hS l = IntKind.i16.wrap (bI l 2 * 256 + bI l 3) := by
  have e : (l.drop 2).take 2 = [l[2], l[3]] := by
    rw [List.drop_eq_getElem_cons (by omega), List.drop_eq_getElem_cons (by omega)]
    rfl
  unfold hS
  rw [e, ← bI_at (by omega), ← bI_at (by omega)]
  simp [getV]
theorem rget_short {A : Option Addr} {n c : Nat} {l : List UInt8} (w : World) (hl : l.length = n) (h9 : n < 9) :
    Calls Try.prog 22 #[.slice A n c] w fun e w' => e = .returned (.tuple #[getH l, .int .i64 (getE l)]) ∧ Below w.heap.size w w' := by
  have hE : getE l = 10 := by unfold getE; rw [if_pos (by omega)]
  have hH : getH l = hdr 0 0 0 0 0 := by unfold getH; rw [hE]; rfl
  rw [hE, hH]
  clear hE hH
  go_enter Try.func22, Try.ntmps22
  go_wp2_with fail
  go_returns
  exact ⟨rfl, below_new (Below.refl _ _) _⟩
set_option maxHeartbeats 800000 in
theorem rget_any {B : Nat} {A : Option Addr} {n c : Nat} {l : List UInt8} (w : World) (hl : BS w B A n c l) (hB : B ≤ w.heap.size) (h9 : ¬ n < 9) :
    Calls Try.prog 22 #[.slice A n c] w fun e w' => e = .returned (.tuple #[getH l, .int .i64 (getE l)]) ∧ Below w.heap.size w w' := by
  have hcap := hl.cap
  have hlen := hl.len
  have hmx := hl.max
  unfold maxLen at hmx
  obtain ⟨b, o, rfl, hbB, hcell⟩ := hl.at_ (by omega)
  have k0 := (hcell 0 (by omega)).trans (by rw [bI_at])
  have k1 := (hcell 1 (by omega)).trans (by rw [bI_at])
  have k2 := (hcell 2 (by omega)).trans (by rw [bI_at])
  have k3 := (hcell 3 (by omega)).trans (by rw [bI_at])
  have k4 := (hcell 4 (by omega)).trans (by rw [bI_at])
  simp only [Nat.add_zero] at k0
  have hE : getE l = chk (bI l 0) (bI l 1) (bI l 4) (hL l) := by unfold getE; rw [if_neg (by omega)]
  have hbw : b < w.heap.size := by omega
  have HC := Lib.hid hcell
  clear hcell
  go_enter Try.func22, Try.ntmps22
  go_wp2_with fail
  go_quiet (fail)
  obtain ⟨x, hx⟩ : ∃ x, x = wrap64 (wrap64 (wrap64 (bI l 2) * 256) + wrap64 (bI l 3)) := ⟨_, rfl⟩
  have hx2 : x = bI l 2 * 256 + bI l 3 := hx.trans (wrap_two (bI_lo l 2) (bI_hi l 2) (bI_lo l 3) (bI_hi l 3))
  have hx0 : 0 ≤ x := by have := bI_lo l 2; have := bI_lo l 3; omega
  have hx1 : x < 65536 := by have := bI_hi l 2; have := bI_hi l 3; omega
  rw [← hx]
  have HX := Lib.hid hx2
  clear hx hx2
  have hs := (hS_eq l (by omega)).symm
  rw [← HX.out] at hs
  have hs' : x % 65536 = x := by omega
  by_cases hlo : x < 32768
  · have hXS : x = hS l := by
      rw [← hs, wrap_i16']; clear hs; omega
    have HXS := Lib.hid hXS
    clear hXS
    go_wp2_with fail
    go_loop [5, 6] (fun x i => ∃ j : Nat, 5 ≤ j ∧ j ≤ 9 ∧ i = .int .i64 j ∧ x = .int .u32 (getV ((l.drop 5).take (j - 5)))) (fun _ i => 9 - (intOf i).toNat)
    case atStart => exact ⟨5, by omega, by omega, rfl, rfl⟩
    case round =>
      obtain ⟨j, hj5, hj9, rfl, rfl⟩ := hrel
      by_cases hlt : j < 9
      · have hck := (HC.out j (by omega)).trans (by rw [bI_at])
        go_wp2_with fail
        exact ⟨⟨j + 1, by omega, by omega, by go_num, by rw [len_step l j hj5 hlt (by omega)]⟩, by simp [intOf]; omega⟩
      · obtain rfl : j = 9 := by omega
        rw [show getV (List.take (9 - 5) (List.drop 5 l)) = hL l from rfl]
        go_wp2_with fail
        go_region
        go_wp2_with fail
        refine (rcheck_any _ _ _ _ _ _ (bI_lo l 1) (bI_hi l 1)).mono ?_
        rintro e w1 ⟨rfl, hb⟩
        obtain ⟨hlt', c0, c1, c2, c3, c4, hb0⟩ := box_kept hb
        obtain ⟨hlt2, d0, d1, d2, d3, d4, f0, f1, f2, f3, f4⟩ := box_row (t := 32) (((Row.new w _ _).drewN _).below hb0 (by simp))
        have hbw1 : Below w.heap.size w w1 := below_then (below_drewN (below_new (Below.refl _ _) _) _) hb0
        clear hb
        rw [hz_drawn] at c0 c1 c2 c3 c4 hlt'
        by_cases hx : chk (bI l 0) (bI l 1) (bI l 4) (hL l) = 0
        · have hH : getH l = hdr (bI l 0) (bI l 1) (hS l) (bI l 4) (hL l) := by unfold getH; rw [hE, hx]; rfl
          have HH := Lib.hid hH
          have HE := Lib.hid (hE.trans hx)
          rw [hx]
          clear hE hH hx
          go_wp2_with fail
          (try simp only [Exit.inBlock, Exit.then])
          refine bodyPost_ret (by simp [results, Try.results22, go_sem, d0, d1, d2, d3, d4]; try rfl) rfl ?_
          refine ⟨?_, ?_⟩
          · rw [HH.out, HE.out, ← HXS.out]
          · iterate 5 (refine Below.setCell ?_ (by exact Nat.le_refl _) _)
            exact hbw1
        · have hH : getH l = hdr 0 0 0 0 0 := by unfold getH; rw [hE, if_neg hx]
          have HH := Lib.hid hH
          have HE := Lib.hid hE
          generalize chk (bI l 0) (bI l 1) (bI l 4) (hL l) = y at hx HE
          clear hE hH
          go_wp2_with fail
          (try simp only [Exit.inBlock, Exit.then])
          refine bodyPost_ret (by simp [results, Try.results22, go_sem, d0, d1, d2, d3, d4]; try rfl) rfl ?_
          refine ⟨?_, ?_⟩
          · rw [HH.out, HE.out]
          · iterate 5 (refine Below.setCell ?_ (by exact Nat.le_refl _) _)
            exact hbw1
  · have hXS : x - 65536 = hS l := by
      rw [← hs, wrap_i16']; clear hs; omega
    have HXS := Lib.hid hXS
    clear hXS
    go_wp2_with fail
    go_loop [5, 6] (fun x i => ∃ j : Nat, 5 ≤ j ∧ j ≤ 9 ∧ i = .int .i64 j ∧ x = .int .u32 (getV ((l.drop 5).take (j - 5)))) (fun _ i => 9 - (intOf i).toNat)
    case atStart => exact ⟨5, by omega, by omega, rfl, rfl⟩
    case round =>
      obtain ⟨j, hj5, hj9, rfl, rfl⟩ := hrel
      by_cases hlt : j < 9
      · have hck := (HC.out j (by omega)).trans (by rw [bI_at])
        go_wp2_with fail
        exact ⟨⟨j + 1, by omega, by omega, by go_num, by rw [len_step l j hj5 hlt (by omega)]⟩, by simp [intOf]; omega⟩
      · obtain rfl : j = 9 := by omega
        rw [show getV (List.take (9 - 5) (List.drop 5 l)) = hL l from rfl]
        go_wp2_with fail
        go_region
        go_wp2_with fail
        refine (rcheck_any _ _ _ _ _ _ (bI_lo l 1) (bI_hi l 1)).mono ?_
        rintro e w1 ⟨rfl, hb⟩
        obtain ⟨hlt', c0, c1, c2, c3, c4, hb0⟩ := box_kept hb
        obtain ⟨hlt2, d0, d1, d2, d3, d4, f0, f1, f2, f3, f4⟩ := box_row (t := 32) (((Row.new w _ _).drewN _).below hb0 (by simp))
        have hbw1 : Below w.heap.size w w1 := below_then (below_drewN (below_new (Below.refl _ _) _) _) hb0
        clear hb
        rw [hz_drawn] at c0 c1 c2 c3 c4 hlt'
        by_cases hx : chk (bI l 0) (bI l 1) (bI l 4) (hL l) = 0
        · have hH : getH l = hdr (bI l 0) (bI l 1) (hS l) (bI l 4) (hL l) := by unfold getH; rw [hE, hx]; rfl
          have HH := Lib.hid hH
          have HE := Lib.hid (hE.trans hx)
          rw [hx]
          clear hE hH hx
          go_wp2_with fail
          (try simp only [Exit.inBlock, Exit.then])
          refine bodyPost_ret (by simp [results, Try.results22, go_sem, d0, d1, d2, d3, d4]; try rfl) rfl ?_
          refine ⟨?_, ?_⟩
          · rw [HH.out, HE.out, ← HXS.out]
          · iterate 5 (refine Below.setCell ?_ (by exact Nat.le_refl _) _)
            exact hbw1
        · have hH : getH l = hdr 0 0 0 0 0 := by unfold getH; rw [hE, if_neg hx]
          have HH := Lib.hid hH
          have HE := Lib.hid hE
          generalize chk (bI l 0) (bI l 1) (bI l 4) (hL l) = y at hx HE
          clear hE hH
          go_wp2_with fail
          (try simp only [Exit.inBlock, Exit.then])
          refine bodyPost_ret (by simp [results, Try.results22, go_sem, d0, d1, d2, d3, d4]; try rfl) rfl ?_
          refine ⟨?_, ?_⟩
          · rw [HH.out, HE.out]
          · iterate 5 (refine Below.setCell ?_ (by exact Nat.le_refl _) _)
            exact hbw1
/-- The document's Get, of all bytes. -/
theorem rget_all {B : Nat} {A : Option Addr} {n c : Nat} {l : List UInt8} (w : World) (hl : BS w B A n c l) (hB : B ≤ w.heap.size) :
    Calls Try.prog 22 #[.slice A n c] w fun e w' => e = .returned (.tuple #[getH l, .int .i64 (getE l)]) ∧ Below w.heap.size w w' := by
  by_cases h9 : n < 9
  · exact rget_short w hl.len h9
  · exact rget_any w hl hB h9
end Go.Proofs.Ytiehhoonfneccaa
