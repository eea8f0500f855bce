/- The opening of an argument of numbers of 64 bits. No condition. -/
import Derived.Test.YtkjgaibkajafaaaRP
import Derived.Test.YtkjgaibkajafaaaN
namespace Go.Proofs.Ytkjgaibkajafaaa
open Go.ChangeShapes Go.WideShapes Go.ChangeAt Go.RowKit
theorem ns_open {H : Type} {enc : TypeId × Value → H} {P : Program} {W : World} {r : Reach} {b0 : Nat} {t e : TypeId} {v : Value} {d : DataW H} {p : List MemPlace} (ht : P.underlying t = some (.slice e)) (he : P.underlying e = some (.int .u64)) (hc : P.cellsOf e = 1)
    (hv : Value.okWide P W r b0 t v) (h : DataW.Trod enc P W 0 (fun _ => true) true t v d p) : ∃ A n c zs, v = .slice A n c ∧ NS W W.heap.size A n zs := by
  obtain ⟨A, n, c, rfl⟩ := okWide_slice ht hv
  obtain ⟨fuel, hf⟩ := h
  rcases open_ints ht he hc hf with ⟨hcs, _⟩ | ⟨x, n', c', zs, hcs, _, hl, hm, hz, _, hcell, hwz⟩
  · simp [Value.cells] at hcs
    obtain ⟨rfl, rfl, rfl⟩ := hcs
    exact ⟨none, 0, 0, [], rfl, rfl, fun z hz => by simp at hz, fun h => absurd h (by omega)⟩
  · simp [Value.cells] at hcs
    obtain ⟨rfl, rfl, rfl⟩ := hcs
    rw [if_pos rfl] at hz
    refine ⟨some x, n, c, zs.take n, rfl, by simp; omega, fun z hz' => ?_, fun hn => ?_⟩
    · have := bounds_u64 (hwz z (List.mem_of_mem_take hz'))
      omega
    · have h0 := hcell 0 (by omega)
      obtain ⟨b, o, sp⟩ := x
      have hsp : sp = none := by
        have := World.cell?_spot h0
        unfold Addr.add at this
        simpa using this
      subst hsp
      refine ⟨b, o, rfl, ?_, fun i hi => ?_⟩
      · have := World.block_lt_of_cell? _ _ h0
        unfold Addr.add at this
        simpa using this
      · have hi' : i < n := by simp at hi; omega
        have h1 := hcell i (by omega)
        rw [add_none] at h1
        rw [h1]
        simp [List.getD, List.getElem?_eq_getElem (show i < zs.length by omega)]
end Go.Proofs.Ytkjgaibkajafaaa
