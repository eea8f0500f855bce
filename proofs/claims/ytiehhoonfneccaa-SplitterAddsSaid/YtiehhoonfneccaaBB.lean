/- The opening of an argument of byte slices. No condition. -/
import Derived.Test.YtiehhoonfneccaaN
import Derived.Test.YtiehhoonfneccaaCT
import Derived.Deep.Slices
namespace Go.Proofs.Ytiehhoonfneccaa
open Go.ChangeShapes Go.WideShapes Go.ChangeAt Go.RowKit
/-- The parts lie in block g, from place o on. -/
structure PartsO (w : World) (B g o : Nat) (ps : List Part) : Prop where
  cell : ∀ i (h : i < ps.length), w.cell? ⟨g, o + i, none⟩ = some (.slice ps[i].A ps[i].n ps[i].c)
  bs : ∀ i (h : i < ps.length), BS w B ps[i].A ps[i].n ps[i].c ps[i].l
theorem PartsO.below {w w' : World} {B g o : Nat} {ps : List Part} (h : PartsO w B g o ps) (hb : Below B w w') (hg : g < B) : PartsO w' B g o ps :=
  ⟨fun i hi => (hb.cell (p := ⟨g, o + i, none⟩) hg).trans (h.cell i hi), fun i hi => (h.bs i hi).below hb⟩
theorem PartsO.then_ {w w' : World} {B g o : Nat} {ps : List Part} (h : PartsO w B g o ps) (hb : Below B w w') (hg : g < B) : PartsO w' B g o ps := h.below hb hg
/-- A slice of byte slices reads as parts; all memory of it lies below block B. -/
structure PS (w : World) (B : Nat) (A : Option Addr) (n c : Nat) (ps : List Part) : Prop where
  len : ps.length = n
  cap : n ≤ c
  max : c ≤ maxLen
  at_ : 0 < n → ∃ g o, A = some ⟨g, o, none⟩ ∧ g < B ∧ PartsO w B g o ps
theorem PS.below {w w' : World} {B n c : Nat} {A : Option Addr} {ps : List Part} (h : PS w B A n c ps) (hb : Below B w w') : PS w' B A n c ps :=
  ⟨h.len, h.cap, h.max, fun hn => by
    obtain ⟨g, o, e, hg, hp⟩ := h.at_ hn
    exact ⟨g, o, e, hg, hp.below hb hg⟩⟩
theorem ps_open {H : Type} {enc : TypeId × Value → H} {P : Program} {W : World} {r : Reach} {b0 : Nat} {t e q : TypeId} {v : Value} {d : DataW H} {p : List MemPlace} (ht : P.underlying t = some (.slice e)) (he : P.underlying e = some (.slice q)) (hq : P.underlying q = some (.int .u8)) (ce : P.cellsOf e = 1) (cq : P.cellsOf q = 1)
    (hv : Value.okWide P W r b0 t v) (h : DataW.Trod enc P W 0 (fun _ => true) true t v d p) : ∃ A n c ps, v = .slice A n c ∧ PS W W.heap.size A n c ps := by
  obtain ⟨A, n, c, rfl⟩ := okWide_slice ht hv
  obtain ⟨fuel, hf⟩ := h
  rcases Deep.open_slice1 ht ce hf with ⟨hcs, _⟩ | ⟨a, len, cap, m, k, V, D, Pl, hcs, _, hl, hm, hmm, _, hx⟩
  · simp [Value.cells] at hcs
    obtain ⟨rfl, rfl, rfl⟩ := hcs
    exact ⟨_, _, _, [], rfl, rfl, Nat.le_refl _, Nat.zero_le _, fun h => absurd h (by omega)⟩
  · simp [Value.cells] at hcs
    obtain ⟨rfl, rfl, rfl⟩ := hcs
    simp only [if_true] at hmm
    subst hmm
    have each : ∀ i, i < n → ∃ x : Part, V i = .slice x.A x.n x.c ∧ BS W W.heap.size x.A x.n x.c x.l := by
      intro i hi
      obtain ⟨A', n', c', l', hcs, hb⟩ := bs_trod he hq cq (hx i (by omega)).2
      exact ⟨⟨A', n', c', l'⟩, by simpa using hcs, hb⟩
    letI : Inhabited Part := ⟨⟨none, 0, 0, []⟩⟩
    obtain ⟨x, hxs⟩ := Deep.choose_lt each
    refine ⟨_, _, _, (List.range n).map x, rfl, by simp, hl, hm, fun hn => ?_⟩
    have h0 := (hx 0 (by omega)).1
    obtain ⟨b, o, sp⟩ := a
    have hsp : sp = none := by
      have := World.cell?_spot h0
      unfold Addr.add at this
      simpa using this
    subst hsp
    refine ⟨b, o, rfl, ?_, fun i hi => ?_, fun i hi => ?_⟩
    · have := World.block_lt_of_cell? _ _ h0
      unfold Addr.add at this
      simpa using this
    · simp at hi
      have h1 := (hx i (by omega)).1
      rw [add_none, (hxs i hi).1] at h1
      simpa using h1
    · simp at hi
      simpa using (hxs i hi).2
end Go.Proofs.Ytiehhoonfneccaa
