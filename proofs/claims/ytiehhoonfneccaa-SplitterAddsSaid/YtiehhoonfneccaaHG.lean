/- header.Get: what it computes, of all bytes. No condition. -/
import Derived.Test.YtiehhoonfneccaaHC
import Derived.Test.YtiehhoonfneccaaCL
namespace Go.Proofs.Ytiehhoonfneccaa
open Go.RowKit
def bI (l : List UInt8) (i : Nat) : Int := ((l.getD i 0).toNat : Int)
theorem bI_at {l : List UInt8} {i : Nat} (h : i < l.length) : (l[i].toNat : Int) = bI l i := by simp [bI, List.getD, h]
theorem bI_lo (l : List UInt8) (i : Nat) : 0 ≤ bI l i := Int.natCast_nonneg _
theorem bI_hi (l : List UInt8) (i : Nat) : bI l i < 256 := by
  have := (l.getD i 0).toNat_lt
  unfold bI
  omega
def hS (l : List UInt8) : Int := IntKind.i16.wrap (getV ((l.drop 2).take 2))
def hL (l : List UInt8) : Int := getV ((l.drop 5).take 4)
def getE (l : List UInt8) : Int := if l.length < 9 then 10 else chk (bI l 0) (bI l 1) (bI l 4) (hL l)
/-- What the header of bytes is; no header where they are none. -/
def getH (l : List UInt8) : Value := if getE l = 0 then hdr (bI l 0) (bI l 1) (hS l) (bI l 4) (hL l) else hdr 0 0 0 0 0
theorem hL_hi (l : List UInt8) : hL l < 4294967296 := by
  have h1 := (getV_bounds ((l.drop 5).take 4)).2
  have h2 : (256 : Int) ^ ((l.drop 5).take 4).length ≤ 256 ^ 4 := pow256_mono (by rw [List.length_take]; omega)
  have h3 : (256 : Int) ^ 4 = 4294967296 := rfl
  unfold hL
  omega
theorem hL_lo (l : List UInt8) : 0 ≤ hL l := (getV_bounds _).1
theorem hz_drawn (w : World) (o : Obj) (k : Nat) : ((w.alloc o).drewN k).heap.size = w.heap.size + 1 := by
  show (w.alloc o).heap.size = _
  simp
theorem box_row {w : World} {g : Nat} {t : TypeId} {a b c d e : Value} (h : Row w g t #[a, b, c, d, e]) : g < w.heap.size ∧ w.cell? ⟨g, 0, none⟩ = some a ∧ w.cell? ⟨g, 1, none⟩ = some b ∧ w.cell? ⟨g, 2, none⟩ = some c ∧ w.cell? ⟨g, 3, none⟩ = some d ∧ w.cell? ⟨g, 4, none⟩ = some e ∧
    w.frozen? ⟨g, 0, none⟩ = false ∧ w.frozen? ⟨g, 1, none⟩ = false ∧ w.frozen? ⟨g, 2, none⟩ = false ∧ w.frozen? ⟨g, 3, none⟩ = false ∧ w.frozen? ⟨g, 4, none⟩ = false := by
  refine ⟨h.lt, ?_, ?_, ?_, ?_, ?_, h.frozen 0, h.frozen 1, h.frozen 2, h.frozen 3, h.frozen 4⟩ <;> rw [h.cell] <;> rfl
set_option maxHeartbeats 800000 in
theorem hget_any {B : Nat} {A : Option Addr} {n c : Nat} {l : List UInt8} (w : World) (hl : BS w B A n c l) (hB : B ≤ w.heap.size) :
    Calls Try.prog 21 #[.slice A n c] w fun e w' => e = .returned (.tuple #[getH l, .int .i64 (getE l)]) ∧ Below w.heap.size w w' := by
  have hcap := hl.cap
  have hlen := hl.len
  have hmx := hl.max
  unfold maxLen at hmx
  by_cases h9 : n < 9
  · have hE : getE l = 10 := by unfold getE; rw [if_pos (by omega)]
    have hH : getH l = hdr 0 0 0 0 0 := by unfold getH; rw [hE]; rfl
    rw [hE, hH]
    clear hE hH
    go_enter Try.func21, Try.ntmps21
    go_wp2_with fail
    go_returns
    exact ⟨rfl, below_new (Below.refl _ _) _⟩
  · obtain ⟨b, o, rfl, hbB, hcell⟩ := hl.at_ (by omega)
    have k0 := (hcell 0 (by omega)).trans (by rw [bI_at])
    have k1 := (hcell 1 (by omega)).trans (by rw [bI_at])
    have k4 := (hcell 4 (by omega)).trans (by rw [bI_at])
    have hf2 := hl.from_ (k := 2) (by omega)
    have hf5 := hl.from_ (k := 5) (by omega)
    rw [if_neg (by omega)] at hf2 hf5
    simp only [Option.map_some, add_none, Nat.add_zero] at hf2 hf5 k0
    have HF2 := Lib.hid hf2
    have HF5 := Lib.hid hf5
    have hE : getE l = chk (bI l 0) (bI l 1) (bI l 4) (hL l) := by unfold getE; rw [if_neg (by omega)]
    have hbw : b < w.heap.size := by omega
    clear hf2 hf5 hcell
    have eL := Lib.hid (show getV (List.take 4 (List.drop 5 l)) % 4294967296 = hL l by have := hL_lo l; have := hL_hi l; unfold hL at *; omega)
    go_enter Try.func21, Try.ntmps21
    go_wp2_with fail
    refine (get_any 2 _ (HF2.out.alloc hB _) (by omega) (by omega) (by omega)).mono ?_
    rintro e w1 ⟨A1, q1, rfl, hbs1, rfl⟩
    go_wp2_with fail
    refine (get_any 4 _ ((HF5.out.alloc hB _).drewN q1) (by omega) (by omega) (by omega)).mono ?_
    rintro e w1 ⟨A2, q2, rfl, hbs2, rfl⟩
    go_wp2_with fail
    go_region
    go_wp2_with fail
    rw [show getV (List.take 4 (List.drop 5 l)) % 4294967296 = hL l from eL.out]
    refine (check_any _ _ _ _ _ _ (bI_lo l 1) (bI_hi l 1)).mono ?_
    rintro e w1 ⟨rfl, hb⟩
    obtain ⟨hlt, c0, c1, c2, c3, c4, hb0⟩ := box_kept hb
    obtain ⟨hlt', d0, d1, d2, d3, d4, f0, f1, f2, f3, f4⟩ := box_row (t := 25) (((Row.new w _ _).drewN _).below hb0 (by simp))
    have hbw1 : Below w.heap.size w w1 := below_then (below_drewN (below_new (Below.refl _ _) _) _) hb0
    clear hb
    rw [hz_drawn] at c0 c1 c2 c3 c4 hlt
    by_cases hx : chk (bI l 0) (bI l 1) (bI l 4) (hL l) = 0
    · have hH : getH l = hdr (bI l 0) (bI l 1) (hS l) (bI l 4) (hL l) := by unfold getH; rw [hE, hx]; rfl
      have HH := Lib.hid hH
      have HE := Lib.hid (hE.trans hx)
      rw [hx]
      clear hE hH hx
      go_wp2_with fail
      (try simp only [Exit.inBlock, Exit.then])
      refine bodyPost_ret (by simp [results, Try.results21, go_sem, d0, d1, d2, d3, d4]; try rfl) rfl ?_
      refine ⟨?_, ?_⟩
      · rw [HH.out, HE.out]; rfl
      · iterate 5 (refine Below.setCell ?_ (by exact Nat.le_refl _) _)
        exact hbw1
    · have hH : getH l = hdr 0 0 0 0 0 := by unfold getH; rw [hE, if_neg hx]
      have HH := Lib.hid hH
      have HE := Lib.hid hE
      generalize chk (bI l 0) (bI l 1) (bI l 4) (hL l) = x at hx HE
      clear hE hH
      go_wp2_with fail
      (try simp only [Exit.inBlock, Exit.then])
      refine bodyPost_ret (by simp [results, Try.results21, go_sem, d0, d1, d2, d3, d4]; try rfl) rfl ?_
      refine ⟨?_, ?_⟩
      · rw [HH.out, HE.out]
      · iterate 5 (refine Below.setCell ?_ (by exact Nat.le_refl _) _)
        exact hbw1
end Go.Proofs.Ytiehhoonfneccaa
