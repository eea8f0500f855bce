/- The opening of an argument of bytes. No condition. -/
import Derived.Test.YtiehhoonfneccaaF
import Derived.Test.YtiehhoonfneccaaM
import Derived.ChangeSlices
import Derived.SizedLaws
namespace Go.Proofs.Ytiehhoonfneccaa
open Go.ChangeShapes Go.WideShapes Go.ChangeAt Go.RowKit
theorem byte_of {n : Int} (h : (Lit.int .u8 n).wf = true) : ((UInt8.ofNat n.toNat).toNat : Int) = n := by
  have b := bounds_u8 h
  simp only [UInt8.toNat_ofNat']
  omega
section
variable {H : Type} {enc : TypeId × Value → H} {P : Program} {W : World}
/-- A byte slice that is read in fuel's way. -/
theorem bs_trod {spare : Nat → Bool} {held : Bool} {base fuel : Nat} {t e : TypeId} {cs : List Value} {y : DataW H × List MemPlace} (ht : P.underlying t = some (.slice e)) (he : P.underlying e = some (.int .u8)) (hc : P.cellsOf e = 1)
    (hf : DataW.trod enc P W base spare held fuel t cs = some y) : ∃ A n c l, cs = [.slice A n c] ∧ BS W W.heap.size A n c l := by
  rcases open_ints ht he hc hf with ⟨hcs, _⟩ | ⟨x, n, c, zs, hcs, _, hl, hm, hz, _, hcell, hwz⟩
  · exact ⟨none, 0, 0, [], hcs, BS.none_ _ _⟩
  · refine ⟨some x, n, c, (zs.take n).map (fun z => UInt8.ofNat z.toNat), hcs, ?_, hl, hm, (fun e => by cases e), fun hn => ?_⟩
    · have hzl : n ≤ zs.length := by rw [hz]; split <;> omega
      simp; omega
    · have hzl : n ≤ zs.length := by rw [hz]; split <;> omega
      have h0 := hcell 0 (by omega)
      obtain ⟨b, o, sp⟩ := x
      have hsp : sp = none := by
        have := World.cell?_spot h0
        unfold Addr.add at this
        simpa using this
      subst hsp
      refine ⟨b, o, rfl, ?_, fun i hi => ?_⟩
      · have := World.block_lt_of_cell? _ _ h0
        unfold Addr.add at this
        simpa using this
      · have hi' : i < n := by simp at hi; omega
        have h1 := hcell i (by omega)
        rw [add_none] at h1
        rw [h1]
        have hw := hwz zs[i] (List.getElem_mem (by omega))
        have hb := bounds_u8 hw
        simp [List.getD, List.getElem?_eq_getElem (show i < zs.length by omega)]
        omega
/-- The datum of a byte slice of capacity c. -/
def Wide (d : DataW H) (c : Nat) : Prop := (d = .nil ∧ c = 0) ∨ ∃ es sp, d = .slice es sp ∧ es.length + sp.length = c
theorem bs_open {r : Reach} {b0 : Nat} {t e : TypeId} {v : Value} {d : DataW H} {p : List MemPlace} (ht : P.underlying t = some (.slice e)) (he : P.underlying e = some (.int .u8)) (hc : P.cellsOf e = 1)
    (hv : Value.okWide P W r b0 t v) (h : DataW.Trod enc P W 0 (fun _ => true) true t v d p) : ∃ A n c l, v = .slice A n c ∧ BS W W.heap.size A n c l ∧ Wide d c := by
  obtain ⟨A, n, c, rfl⟩ := okWide_slice ht hv
  obtain ⟨fuel, hf⟩ := h
  obtain ⟨A', n', c', l, hcs, hb⟩ := bs_trod ht he hc hf
  simp [Value.cells] at hcs
  obtain ⟨rfl, rfl, rfl⟩ := hcs
  refine ⟨_, _, _, l, rfl, hb, ?_⟩
  rcases open_ints ht he hc hf with ⟨hcs, hx⟩ | ⟨x, n', c', zs, hcs, _, hl, hm, hz, hx, hcell, hwz⟩
  · simp [Value.cells] at hcs
    simp only [Prod.mk.injEq] at hx
    exact .inl ⟨hx.1, hcs.2.2⟩
  · simp [Value.cells] at hcs
    obtain ⟨_, _, rfl⟩ := hcs
    simp only [Prod.mk.injEq] at hx
    refine .inr ⟨_, _, hx.1, ?_⟩
    rw [if_pos rfl] at hz
    simp [lits]
    omega
theorem wide_bound {ts : List TypeId} {ds : List (DataW H)} (h : (DataW.weightsEach P ts ds).all (· ≤ reachBytes) = true) {j : Nat} {t e : TypeId} {d : DataW H} {c : Nat} (ht : ts[j]? = some t) (hd : ds[j]? = some d) (hu : P.underlying t = some (.slice e)) (hw : Wide d c) (hb : P.bytesOf e = 1) : c ≤ 140737488351232 := by
  rcases hw with ⟨_, rfl⟩ | ⟨es, sp, rfl, rfl⟩
  · omega
  · have := sized_slice h ht hd hu
    rw [hb] at this
    simp only [reachBytes] at this
    omega
end
end Go.Proofs.Ytiehhoonfneccaa
