/- Parts that were joined into frames, one behind the other: plain laws. No condition but that the numbers are of their kinds. -/
import Derived.Test.YtiehhoonfneccaaSH
import Derived.Test.YtiehhoonfneccaaBB
import Derived.Deep.CutBlock
namespace Go.Proofs.Ytiehhoonfneccaa
open Go.RowKit
/-- A part's frame. -/
def jF (V F S O : Int) (p : Part) : Fr := ⟨V, F, S, O, p.n, p.l⟩
/-- The first k parts, joined. -/
structure Joined (V F S O : Int) (ps : List Part) (k : Nat) (bs : List UInt8) : Prop where
  eq : bs = ((ps.take k).map (jF V F S O)).flatMap frB
  ok : ∀ f ∈ (ps.take k).map (jF V F S O), FrOk V f
  len : bs.length ≤ 309 * k
theorem Joined.zero (V F S O : Int) (ps : List Part) : Joined V F S O ps 0 [] := ⟨rfl, fun f h => by simp at h, by simp⟩
theorem Joined.succ {V F S O : Int} {ps : List Part} {k : Nat} {bs : List UInt8} (h : Joined V F S O ps k bs) (hV0 : 0 ≤ V) (hV1 : V < 256) (hF0 : 0 ≤ F) (hF1 : F < 256) (hS0 : -32768 ≤ S) (hS1 : S < 32768) (hO0 : 0 ≤ O) (hO1 : O < 256) {A : Option Addr} {n c : Nat} {l : List UInt8} (hk : k < ps.length) (hp : ps[k] = ⟨A, n, c, l⟩) (hl : l.length = n) (h3 : n ≤ 300) (hc : chk V F O n = 0) :
    Joined V F S O ps (k + 1) (bs ++ (putH V F S O n ++ l)) := by
  subst hl
  refine ⟨?_, ?_, ?_⟩
  · rw [List.take_succ_eq_append_getElem hk, hp, List.map_append, List.flatMap_append, ← h.eq]
    simp [jF, frB]
  · rw [List.take_succ_eq_append_getElem hk, hp, List.map_append]
    intro f hf
    rcases List.mem_append.1 hf with hf | hf
    · exact h.ok f hf
    · simp at hf
      subst hf
      exact ⟨rfl, hV0, hV1, hF0, hF1, hS0, hS1, hO0, hO1, rfl, by simp only [jF]; omega, hc⟩
  · have := h.len
    rw [List.length_append, List.length_append, putH_len]
    omega
theorem Joined.sp {V F S O : Int} {ps : List Part} {bs : List UInt8} {k : Nat} (h : Joined V F S O ps k bs) (hk : k = ps.length) (more : List UInt8) : sp V (bs ++ more) = (ps.map (jF V F S O) ++ (sp V more).1, (sp V more).2) := by
  subst hk
  have h1 := h.eq
  have h2 := h.ok
  rw [List.take_length] at h1 h2
  rw [h1]
  exact sp_many more _ h2
theorem keep_cell {w w' : World} {B g i : Nat} {v : Value} (h : w.cell? ⟨g, i, none⟩ = some v) (hg : g < B) (hb : Below B w w') : w'.cell? ⟨g, i, none⟩ = some v := (hb.cell (p := ⟨g, i, none⟩) hg).trans h
theorem or_1 : ∀ n : Fin 256, (decide (0 ≤ bits .or .u8 (n.val : Int) 1 ∧ bits .or .u8 (n.val : Int) 1 < 256) && badF 132 (bits .or .u8 (n.val : Int) 1)) = true := by decide +kernel
theorem flags_or {F : Int} (h0 : 0 ≤ F) (h1 : F < 256) : 0 ≤ bits .or .u8 F 1 ∧ bits .or .u8 F 1 < 256 ∧ badF 132 (bits .or .u8 F 1) = true := by
  obtain ⟨n, rfl⟩ := Int.eq_ofNat_of_zero_le h0
  have := or_1 ⟨n, by omega⟩
  simp only [Bool.and_eq_true, decide_eq_true_eq] at this
  exact ⟨this.1.1, this.1.2, this.2⟩
theorem sp_wrong (b : UInt8) (hb : badF 132 (b.toNat : Int) = true) (more : List UInt8) : sp 132 ([132, b, 0, 0, 2, 0, 0, 0, 0] ++ more) = ([], [], 21) := by
  have h9 : ¬ ([132, b, 0, 0, 2, 0, 0, 0, 0] ++ more).length < 9 := by simp
  have hE : getE ([132, b, 0, 0, 2, 0, 0, 0, 0] ++ more) = 21 := by
    unfold getE
    rw [if_neg h9]
    have h1 : bI ([132, b, 0, 0, 2, 0, 0, 0, 0] ++ more) 0 = 132 := rfl
    have h2 : bI ([132, b, 0, 0, 2, 0, 0, 0, 0] ++ more) 1 = (b.toNat : Int) := rfl
    unfold chk
    rw [h1, h2, if_neg (by decide), if_pos hb]
  have he : erOf 132 ([132, b, 0, 0, 2, 0, 0, 0, 0] ++ more) = 21 := by
    unfold erOf
    rw [if_neg (by rw [hE]; simp), hE]
  rw [sp_err _ _ h9 (by rw [he]; decide), he]
end Go.Proofs.Ytiehhoonfneccaa
