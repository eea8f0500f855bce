/- A header put and got, got and put: the plain laws. No program in sight. -/
import Derived.Test.YtiehhoonfneccaaHW
namespace Go.Proofs.Ytiehhoonfneccaa
open Go.RowKit
theorem bv_inj {l m : List UInt8} (h : bv l = bv m) : l = m := by
  induction l generalizing m with
  | nil => cases m with
    | nil => rfl
    | cons b m => simp [bv] at h
  | cons a l ih => cases m with
    | nil => simp [bv] at h
    | cons b m =>
      simp only [bv, List.map_cons, List.cons.injEq, Value.int.injEq, true_and] at h
      rw [ih h.2, UInt8.toNat_inj.1 (by omega : a.toNat = b.toNat)]
theorem bI_of {l : List UInt8} {i : Nat} {x : Int} (h : (bv l)[i]? = some (.int .u8 x)) : bI l i = x := by
  simp only [bv, List.getElem?_map] at h
  cases hl : l[i]? with
  | none => rw [hl] at h; cases h
  | some b =>
    rw [hl] at h
    simp only [Option.map_some, Option.some.injEq, Value.int.injEq, true_and] at h
    unfold bI
    rw [List.getD, hl]
    exact h
theorem getV_four (l : List UInt8) (h : 9 ≤ l.length) : getV ((l.drop 5).take 4) = ((bI l 5 * 256 + bI l 6) * 256 + bI l 7) * 256 + bI l 8 := by
  have e : (l.drop 5).take 4 = [l[5], l[6], l[7], l[8]] := by
    rw [List.drop_eq_getElem_cons (by omega), List.drop_eq_getElem_cons (by omega), List.drop_eq_getElem_cons (by omega), List.drop_eq_getElem_cons (by omega)]
    rfl
  rw [e, ← bI_at (by omega), ← bI_at (by omega), ← bI_at (by omega), ← bI_at (by omega)]
  simp [getV]
section
variable {V F S O L : Int} (hV0 : 0 ≤ V) (hV1 : V < 256) (hF0 : 0 ≤ F) (hF1 : F < 256) (hS0 : -32768 ≤ S) (hS1 : S < 32768) (hO0 : 0 ≤ O) (hO1 : O < 256) (hL0 : 0 ≤ L) (hL1 : L < 4294967296)
include hV0 hV1 hF0 hF1 hS0 hS1 hO0 hO1 hL0 hL1
theorem put_bytes (m : List UInt8) : bI (putH V F S O L ++ m) 0 = V ∧ bI (putH V F S O L ++ m) 1 = F ∧ hS (putH V F S O L ++ m) = S ∧ bI (putH V F S O L ++ m) 4 = O ∧ hL (putH V F S O L ++ m) = L := by
  have hc := putH_cells V F S O L hV0 hV1 hF0 hF1 hO0 hO1
  have hlen : 9 ≤ (putH V F S O L ++ m).length := by rw [List.length_append, putH_len]; omega
  have hb : bv (putH V F S O L ++ m) = [.int .u8 V, .int .u8 F, .int .u8 (S % 65536 / 256 % 256), .int .u8 (S % 65536 % 256), .int .u8 O, .int .u8 (L / 16777216 % 256), .int .u8 (L / 65536 % 256), .int .u8 (L / 256 % 256), .int .u8 (L % 256)] ++ bv m := by rw [bv_append, hc]
  have b0 : bI (putH V F S O L ++ m) 0 = V := bI_of (by rw [hb]; rfl)
  have b1 : bI (putH V F S O L ++ m) 1 = F := bI_of (by rw [hb]; rfl)
  have b2 : bI (putH V F S O L ++ m) 2 = S % 65536 / 256 % 256 := bI_of (by rw [hb]; rfl)
  have b3 : bI (putH V F S O L ++ m) 3 = S % 65536 % 256 := bI_of (by rw [hb]; rfl)
  have b4 : bI (putH V F S O L ++ m) 4 = O := bI_of (by rw [hb]; rfl)
  have b5 : bI (putH V F S O L ++ m) 5 = L / 16777216 % 256 := bI_of (by rw [hb]; rfl)
  have b6 : bI (putH V F S O L ++ m) 6 = L / 65536 % 256 := bI_of (by rw [hb]; rfl)
  have b7 : bI (putH V F S O L ++ m) 7 = L / 256 % 256 := bI_of (by rw [hb]; rfl)
  have b8 : bI (putH V F S O L ++ m) 8 = L % 256 := bI_of (by rw [hb]; rfl)
  refine ⟨b0, b1, ?_, b4, ?_⟩
  · rw [hS_eq _ (by omega), b2, b3, wrap_i16']
    omega
  · unfold hL
    rw [getV_four _ hlen, b5, b6, b7, b8]
    omega
theorem put_get (m : List UInt8) (h : chk V F O L = 0) : getE (putH V F S O L ++ m) = 0 ∧ getH (putH V F S O L ++ m) = hdr V F S O L := by
  obtain ⟨b0, b1, b2, b4, b5⟩ := put_bytes hV0 hV1 hF0 hF1 hS0 hS1 hO0 hO1 hL0 hL1 m
  have hE : getE (putH V F S O L ++ m) = 0 := by
    unfold getE
    rw [if_neg (by rw [List.length_append, putH_len]; omega), b0, b1, b4, b5, h]
  refine ⟨hE, ?_⟩
  unfold getH
  rw [if_pos hE, b0, b1, b2, b4, b5]
end
theorem hS_rng (l : List UInt8) : -32768 ≤ hS l ∧ hS l < 32768 := by
  unfold hS
  rw [wrap_i16']
  omega
theorem get_put (l : List UInt8) (h : 9 ≤ l.length) : putH (bI l 0) (bI l 1) (hS l) (bI l 4) (hL l) = l.take 9 := by
  apply bv_inj
  rw [putH_cells _ _ _ _ _ (bI_lo l 0) (bI_hi l 0) (bI_lo l 1) (bI_hi l 1) (bI_lo l 4) (bI_hi l 4)]
  have e : l.take 9 = [l[0], l[1], l[2], l[3], l[4], l[5], l[6], l[7], l[8]] := by
    apply List.ext_getElem
    · simp; omega
    · intro i h1 h2
      simp at h2
      match i, h2 with
      | 0, _ => simp
      | 1, _ => simp
      | 2, _ => simp
      | 3, _ => simp
      | 4, _ => simp
      | 5, _ => simp
      | 6, _ => simp
      | 7, _ => simp
      | 8, _ => simp
  rw [e]
  simp only [bv, List.map_cons, List.map_nil]
  rw [bI_at (show 0 < l.length by omega), bI_at (show 1 < l.length by omega), bI_at (show 2 < l.length by omega), bI_at (show 3 < l.length by omega), bI_at (show 4 < l.length by omega), bI_at (show 5 < l.length by omega), bI_at (show 6 < l.length by omega), bI_at (show 7 < l.length by omega), bI_at (show 8 < l.length by omega)]
  have hs := hS_eq l (by omega)
  rw [wrap_i16'] at hs
  have hl : hL l = ((bI l 5 * 256 + bI l 6) * 256 + bI l 7) * 256 + bI l 8 := getV_four l h
  have := bI_lo l 2; have := bI_hi l 2; have := bI_lo l 3; have := bI_hi l 3
  have := bI_lo l 5; have := bI_hi l 5; have := bI_lo l 6; have := bI_hi l 6; have := bI_lo l 7; have := bI_hi l 7; have := bI_lo l 8; have := bI_hi l 8
  simp only [List.cons.injEq, Value.int.injEq, true_and, and_true]
  rw [hl, hs]
  omega
end Go.Proofs.Ytiehhoonfneccaa
