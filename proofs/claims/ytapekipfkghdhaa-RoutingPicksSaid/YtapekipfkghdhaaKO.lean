/- Values and places in rows of a call's own; the opening of places. No condition. -/
import Derived.Test.YtapekipfkghdhaaKM
import Derived.Test.YtapekipfkghdhaaN
namespace Go.Proofs.Ytapekipfkghdhaa
open Go.ChangeShapes Go.WideShapes Go.ChangeAt Go.RowKit
/-- A value's cells. -/
def valCells (x : Val) : List Value := [.int .i64 x.kind, x.p.v]
/-- Values in a row of the call's own. -/
def VX (w : World) (base : Nat) (v : Value) (vs : List Val) : Prop := w.ownsRow base 54 2 v vs.length (vs.flatMap valCells)
theorem info_val : (Try.prog.info? 54).map (fun i => (i.zero.map (·.cells.size), i.size, i.bytes)) = some (some 2, 2, 32) := by kernel_rfl
theorem info_u16 : (Try.prog.info? 31).map (fun i => (i.zero.map (·.cells.size), i.size, i.bytes)) = some (some 1, 1, 2) := by kernel_rfl
theorem VX.run_snoc {w : World} {base g : Nat} {v : Value} {vs : List Val} (h : VX w base v vs) (x : Val) (hg : Row w g 54 (valCells x).toArray) (hb : base ≤ w.heap.size) (hn : vs.length ≤ 1099511627776) (ty : TypeId) :
    ∃ v' w', (Builtin.append_ #[51, 51] ty #[v, .slice (some ⟨g, 0, none⟩) 1 1]).run Try.prog w = .ok v' w' ∧ VX w' base v' (vs ++ [x]) ∧ w.grownBy w' v.ownBlock := by
  obtain ⟨i, hi⟩ : ∃ i, Try.prog.info? 54 = some i := by
    have := info_val
    cases h : Try.prog.info? 54 with
    | none => rw [h] at this; cases this
    | some i => exact ⟨i, rfl⟩
  have hif := info_val
  rw [hi] at hif
  simp only [Option.map_some, Option.some.injEq, Prod.mk.injEq] at hif
  obtain ⟨hz, hsz, hby⟩ := hif
  obtain ⟨z, hz1, hz2⟩ := Option.map_eq_some_iff.1 hz
  obtain ⟨v', w', h1, hown, hgr, _⟩ := run_append_own (P := Try.prog) w base 51 ty 54 i z 2 32 Try.underlying51 hi hz1 hsz hby hz2 (by omega) v vs.length (vs.flatMap valCells) h ⟨g, 0, none⟩ 1 1 (valCells x) rfl
    (fun j u hj => by rw [add_none, Nat.zero_add, hg.cell]; simpa using hj) (by intro u hu; simp [valCells] at hu; rcases hu with rfl | rfl <;> rfl) (by unfold maxLen; omega) (by omega) hb
  exact ⟨v', w', h1, by unfold VX; simpa using hown, hgr⟩
theorem val_at : ∀ (vs : List Val) (j : Nat) (h : j < vs.length) (i : Nat), i < 2 → (vs.flatMap valCells)[j * 2 + i]? = (valCells vs[j])[i]?
  | [], j, h, _, _ => absurd h (by simp)
  | f :: fs, 0, _, i, hi => by
    rw [List.flatMap_cons, Nat.zero_mul, Nat.zero_add, List.getElem?_append_left (by simpa [valCells] using hi)]
    rfl
  | f :: fs, j + 1, h, i, hi => by
    have := val_at fs j (by simpa using h) i hi
    rw [List.flatMap_cons, List.getElem?_append_right (by simp [valCells]; omega)]
    rw [show (j + 1) * 2 + i - (valCells f).length = j * 2 + i by simp [valCells]; omega, this]
    rfl
theorem VX.form {w : World} {base : Nat} {v : Value} {vs : List Val} (h : VX w base v vs) (hr' : ∀ x ∈ vs, -9223372036854775808 ≤ x.kind ∧ x.kind ≤ 9223372036854775807) (hbs : ∀ x ∈ vs, SW w x.p.A x.p.n x.p.c x.p.l) : ∃ A c, v = .slice A vs.length c ∧ VS w w.heap.size A vs.length c vs := by
  have hr : w.ownsRow base 54 2 v vs.length (vs.flatMap valCells) := h
  rcases hr.2 with ⟨hv, hn⟩ | ⟨g, cap, cur, hv, _, hk, hc, hm, hs, ht⟩
  · exact ⟨none, 0, by rw [hv, hn], rfl, by omega, Nat.zero_le _, hr', fun hx => absurd hx (by omega)⟩
  · subst hv
    refine ⟨_, _, rfl, rfl, hc, hm, hr', fun hx => ⟨g, 0, rfl, (Array.getElem?_eq_some_iff.1 hk).1, fun j hj => ?_, fun j hj => ?_, fun j hj => hbs _ (List.getElem_mem hj)⟩⟩
    · have h1 := hr.cellAt (j * 2 + 0) (by omega)
      rw [val_at vs j hj 0 (by omega)] at h1
      rw [Nat.zero_add]
      exact h1
    · have h1 := hr.cellAt (j * 2 + 1) (by omega)
      rw [val_at vs j hj 1 (by omega)] at h1
      rw [Nat.zero_add]
      exact h1
/-- Places in a row of the call's own. -/
def UX (w : World) (base : Nat) (v : Value) (zs : List Nat) : Prop := w.ownsRow base 31 1 v zs.length (zs.map fun (z : Nat) => Value.int .u16 (z : Int))
theorem UX.run_snoc {w : World} {base g : Nat} {v : Value} {zs : List Nat} (h : UX w base v zs) (z : Nat) (hg : w.cell? ⟨g, 0, none⟩ = some (.int .u16 (z : Int))) (hb : base ≤ w.heap.size) (hn : zs.length ≤ 1099511627776) (ty : TypeId) :
    ∃ v' w', (Builtin.append_ #[50, 50] ty #[v, .slice (some ⟨g, 0, none⟩) 1 1]).run Try.prog w = .ok v' w' ∧ UX w' base v' (zs ++ [z]) ∧ w.grownBy w' v.ownBlock := by
  obtain ⟨i, hi⟩ : ∃ i, Try.prog.info? 31 = some i := by
    have := info_u16
    cases h : Try.prog.info? 31 with
    | none => rw [h] at this; cases this
    | some i => exact ⟨i, rfl⟩
  have hif := info_u16
  rw [hi] at hif
  simp only [Option.map_some, Option.some.injEq, Prod.mk.injEq] at hif
  obtain ⟨hz, hsz, hby⟩ := hif
  obtain ⟨z0, hz1, hz2⟩ := Option.map_eq_some_iff.1 hz
  obtain ⟨v', w', h1, hown, hgr, _⟩ := run_append_own (P := Try.prog) w base 50 ty 31 i z0 1 2 Try.underlying50 hi hz1 hsz hby hz2 (by omega) v zs.length (zs.map fun (z : Nat) => Value.int .u16 (z : Int)) h ⟨g, 0, none⟩ 1 1 [.int .u16 (z : Int)] rfl
    (fun j u hj => by
      match j, hj with
      | 0, hj => simp at hj; subst hj; rw [add_none]; exact hg)
    (by intro u hu; simp at hu; subst hu; rfl) (by unfold maxLen; omega) (by omega) hb
  exact ⟨v', w', h1, by unfold UX; simpa using hown, hgr⟩
theorem UX.form {w : World} {base : Nat} {v : Value} {zs : List Nat} (h : UX w base v zs) (hz : ∀ z ∈ zs, z < 65536) : ∃ A c, v = .slice A zs.length c ∧ US w w.heap.size A zs.length c zs := by
  have hr : w.ownsRow base 31 1 v zs.length (zs.map fun (z : Nat) => Value.int .u16 (z : Int)) := h
  rcases hr.2 with ⟨hv, hn⟩ | ⟨g, cap, cur, hv, _, hk, hc, hm, hs, ht⟩
  · exact ⟨none, 0, by rw [hv, hn], rfl, by omega, Nat.zero_le _, hz, fun hx => absurd hx (by omega)⟩
  · subst hv
    refine ⟨_, _, rfl, rfl, hc, hm, hz, fun hx => ⟨g, 0, rfl, (Array.getElem?_eq_some_iff.1 hk).1, fun j hj => ?_⟩⟩
    have h1 := hr.cellAt j (by omega)
    rw [List.getElem?_map, List.getElem?_eq_getElem hj] at h1
    rw [Nat.zero_add]
    exact h1
theorem us_open {H : Type} {enc : TypeId × Value → H} {P : Program} {W : World} {r : Reach} {b0 : Nat} {t e : TypeId} {v : Value} {d : DataW H} {p : List MemPlace} (ht : P.underlying t = some (.slice e)) (he : P.underlying e = some (.int .u16)) (hc : P.cellsOf e = 1)
    (hv : Value.okWide P W r b0 t v) (h : DataW.Trod enc P W 0 (fun _ => true) true t v d p) : ∃ A n c zs, v = .slice A n c ∧ US W W.heap.size A n c zs := by
  obtain ⟨A, n, c, rfl⟩ := okWide_slice ht hv
  obtain ⟨fuel, hf⟩ := h
  rcases open_ints ht he hc hf with ⟨hcs, _⟩ | ⟨x, n', c', zs, hcs, _, hl, hm, hz, _, hcell, hwz⟩
  · simp [Value.cells] at hcs
    obtain ⟨rfl, rfl, rfl⟩ := hcs
    exact ⟨_, _, _, [], rfl, rfl, Nat.le_refl _, Nat.zero_le _, fun z h => (nomatch h), fun h => absurd h (by omega)⟩
  · simp [Value.cells] at hcs
    obtain ⟨rfl, rfl, rfl⟩ := hcs
    rw [if_pos rfl] at hz
    have hzr : ∀ i (hi : i < zs.length), 0 ≤ zs[i] ∧ zs[i] ≤ 65535 := fun i hi => bounds_u16 (hwz zs[i] (List.getElem_mem hi))
    refine ⟨_, _, _, (zs.take n).map Int.toNat, rfl, by simp; omega, hl, hm, fun z h => ?_, fun hn => ?_⟩
    · obtain ⟨u, hu, rfl⟩ := List.mem_map.1 h
      have := bounds_u16 (hwz u (List.mem_of_mem_take hu))
      omega
    · have h0 := hcell 0 (by omega)
      obtain ⟨b, o, sp⟩ := x
      have hsp : sp = none := by
        have := World.cell?_spot h0
        unfold Addr.add at this
        simpa using this
      subst hsp
      refine ⟨b, o, rfl, ?_, fun i hi => ?_⟩
      · have := World.block_lt_of_cell? _ _ h0
        unfold Addr.add at this
        simpa using this
      · simp at hi
        have h1 := hcell i (by omega)
        rw [add_none] at h1
        rw [h1]
        have := (hzr i (by omega)).1
        simp [List.getD, List.getElem?_eq_getElem (show i < zs.length by omega)]
        omega
end Go.Proofs.Ytapekipfkghdhaa
