/- The opening of an argument that is a header. No condition. -/
import Derived.Test.YtiehhoonfneccaaF
import Derived.Test.YtiehhoonfneccaaHB
import Derived.ChangeSlices
import Derived.SizedLaws
namespace Go.Proofs.Ytiehhoonfneccaa
open Go.ChangeShapes Go.WideShapes Go.ChangeAt Go.RowKit
section
variable {H : Type} {enc : TypeId × Value → H} {W : World}
theorem hdr_open {r : Reach} {b0 : Nat} {v : Value} {d : DataW H} {p : List MemPlace} (hv : Value.okWide Try.prog W r b0 25 v) (h : DataW.Trod enc Try.prog W 0 (fun _ => true) true 25 v d p) :
    ∃ V F S O L, v = hdr V F S O L ∧ 0 ≤ V ∧ V < 256 ∧ 0 ≤ F ∧ F < 256 ∧ -32768 ≤ S ∧ S < 32768 ∧ 0 ≤ O ∧ O < 256 ∧ 0 ≤ L ∧ L < 4294967296 := by
  obtain ⟨cs, fu, rfl, hlen, hf⟩ := open_struct Try.underlying25 (by kernel_rfl) (by kernel_rfl) hv h
  obtain ⟨c0, c1, c2, c3, c4, rfl⟩ := list5 hlen
  obtain ⟨_, y0, e0, g0⟩ := hf 0 _ rfl
  obtain ⟨_, y1, e1, g1⟩ := hf 1 _ rfl
  obtain ⟨_, y2, e2, g2⟩ := hf 2 _ rfl
  obtain ⟨_, y3, e3, g3⟩ := hf 3 _ rfl
  obtain ⟨_, y4, e4, g4⟩ := hf 4 _ rfl
  obtain ⟨x0, z0, w0⟩ := DataW.trod_int Try.underlying5 g0
  obtain ⟨x1, z1, w1⟩ := DataW.trod_int Try.underlying5 g1
  obtain ⟨x2, z2, w2⟩ := DataW.trod_int Try.underlying22 g2
  obtain ⟨x3, z3, w3⟩ := DataW.trod_int Try.underlying5 g3
  obtain ⟨x4, z4, w4⟩ := DataW.trod_int Try.underlying23 g4
  injection z0 with z0; injection z1 with z1; injection z2 with z2; injection z3 with z3; injection z4 with z4
  subst z0 z1 z2 z3 z4
  simp at e0 e1 e2 e3 e4
  subst e0 e1 e2 e3 e4
  have b0 := bounds_u8 w0.2
  have b1 := bounds_u8 w1.2
  have b2 := bounds_i16 w2.2
  have b3 := bounds_u8 w3.2
  have b4 := bounds_u32 w4.2
  exact ⟨x0, x1, x2, x3, x4, rfl, b0.1, by omega, b1.1, by omega, b2.1, by omega, b3.1, by omega, b4.1, by omega⟩
end
end Go.Proofs.Ytiehhoonfneccaa
