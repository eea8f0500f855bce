/- prepared: the opening of entries that came in. No condition. -/
import Derived.Test.YtfcopniihcaefaaPL
import Derived.Test.YtfcopniihcaefaaF
import Derived.ChangeSlices
import Derived.ChangeMaps5
import Derived.Deep.Slices
import Derived.Deep.Fields
import Derived.SizedLaws
namespace Go.Proofs.Ytfcopniihcaefaa
open Go.ChangeShapes Go.WideShapes Go.ChangeAt Go.RowKit Go.Deep
theorem us_trod {H : Type} {enc : TypeId × Value → H} {P : Program} {W : World} {fuel : Nat} {t e : TypeId} {cs : List Value} {y : DataW H × List MemPlace} (ht : P.underlying t = some (.slice e)) (he : P.underlying e = some (.int .u16)) (hc : P.cellsOf e = 1)
    (hf : DataW.trod enc P W 0 (fun _ => true) true fuel t cs = some y) : ∃ A n c zs, cs = [.slice A n c] ∧ US W W.heap.size A n c zs := by
  rcases open_ints ht he hc hf with ⟨hcs, _⟩ | ⟨x, n, c, zs, hcs, _, hl, hm, hz, _, hcell, hwz⟩
  · exact ⟨_, _, _, [], hcs, rfl, Nat.le_refl _, Nat.zero_le _, fun z h => (nomatch h), fun _ => rfl, fun h => absurd h (by omega)⟩
  · rw [if_pos rfl] at hz
    have hzr : ∀ i (hi : i < zs.length), 0 ≤ zs[i] ∧ zs[i] ≤ 65535 := fun i hi => bounds_u16 (hwz zs[i] (List.getElem_mem hi))
    refine ⟨_, _, _, (zs.take n).map Int.toNat, hcs, by simp; omega, hl, hm, fun z h => ?_, fun h => (by cases h), fun hn => ?_⟩
    · obtain ⟨u, hu, rfl⟩ := List.mem_map.1 h
      have := bounds_u16 (hwz u (List.mem_of_mem_take hu))
      omega
    · have h0 := hcell 0 (by omega)
      obtain ⟨b, o, sp⟩ := x
      have hsp : sp = none := by
        have := World.cell?_spot h0
        unfold Addr.add at this
        simpa using this
      subst hsp
      refine ⟨b, o, rfl, ?_, fun i hi => ?_⟩
      · have := World.block_lt_of_cell? _ _ h0
        unfold Addr.add at this
        simpa using this
      · simp at hi
        have h1 := hcell i (by omega)
        rw [add_none] at h1
        rw [h1]
        have := (hzr i (by omega)).1
        simp [List.getD, List.getElem?_eq_getElem (show i < zs.length by omega)]
        omega
theorem str_trod {H : Type} {enc : TypeId × Value → H} {P : Program} {W : World} {fuel : Nat} {t : TypeId} {u : Value} {y : DataW H × List MemPlace} (ht : P.underlying t = some .string)
    (hf : DataW.trod enc P W 0 (fun _ => true) true fuel t [u] = some y) : ∃ l : List UInt8, u = .string ⟨l.toArray⟩ := by
  obtain ⟨s', h, _, _⟩ := DataW.trod_string ht hf
  refine ⟨s'.data.toList, ?_⟩
  simpa using h
/-- Entries that came in. -/
structure LS (w : World) (B : Nat) (A : Option Addr) (n c : Nat) (es : List En) : Prop where
  len : es.length = n
  cap : n ≤ c
  max : c ≤ maxLen
  at_ : 0 < n → ∃ g o, A = some ⟨g, o, none⟩ ∧ g < B ∧ ES w g o es
  us : ∀ e ∈ es, US w B e.A e.n e.c e.ks
theorem LS.below {w w' : World} {B n c : Nat} {A : Option Addr} {es : List En} (h : LS w B A n c es) (hb : Below B w w') : LS w' B A n c es :=
  ⟨h.len, h.cap, h.max, fun hn => by
    obtain ⟨g, o, e, hg, hp⟩ := h.at_ hn
    exact ⟨g, o, e, hg, ⟨fun k hk => (hb.cell (p := ⟨g, _, none⟩) hg).trans (hp.t k hk), fun k hk => (hb.cell (p := ⟨g, _, none⟩) hg).trans (hp.i k hk), fun k hk => (hb.cell (p := ⟨g, _, none⟩) hg).trans (hp.k k hk)⟩⟩, fun e he => (h.us e he).below hb⟩
theorem three_trod {H : Type} {enc : TypeId × Value → H} {P : Program} {W : World} {k' : Nat} {t q : TypeId} {fs : Array Field} {u0 u1 u2 : Value} {y : DataW H × List MemPlace} (hs : P.underlying t = some (.struct fs)) (hone : oneCellFields P fs = true) (hsz : fs.size = 3)
    (h0 : ∃ f0, fs[0]? = some f0 ∧ P.underlying f0.type = some .string) (h1 : ∃ f1, fs[1]? = some f1 ∧ P.underlying f1.type = some .string) (h2 : ∃ f2, fs[2]? = some f2 ∧ P.underlying f2.type = some (.slice q)) (hq : P.underlying q = some (.int .u16)) (cq : P.cellsOf q = 1)
    (hf : DataW.trod enc P W 0 (fun _ => true) true k' t [u0, u1, u2] = some y) : ∃ e : En, [u0, u1, u2] = enCells e ∧ US W W.heap.size e.A e.n e.c e.ks := by
  obtain ⟨f0, hf0, h0⟩ := h0
  obtain ⟨f1, hf1, h1⟩ := h1
  obtain ⟨f2, hf2, h2⟩ := h2
  obtain ⟨xs, k2, _, hxe, _, hxl, hg⟩ := DataW.trod_struct hs hf
  have g0 := hg 0 f0 hf0
  have g1 := hg 1 f1 hf1
  have g2 := hg 2 f2 hf2
  obtain ⟨o0, s0⟩ := hone_of hone 0 f0 hf0
  obtain ⟨o1, s1⟩ := hone_of hone 1 f1 hf1
  obtain ⟨o2, s2⟩ := hone_of hone 2 f2 hf2
  rw [o0, s0, List.getElem?_eq_getElem (by omega)] at g0
  rw [o1, s1, List.getElem?_eq_getElem (by omega)] at g1
  rw [o2, s2, List.getElem?_eq_getElem (by omega)] at g2
  have g0' : DataW.trod enc P W 0 (fun _ => true) true k2 f0.type [u0] = some (xs[0]'(by omega)) := g0
  have g1' : DataW.trod enc P W 0 (fun _ => true) true k2 f1.type [u1] = some (xs[1]'(by omega)) := g1
  have g2' : DataW.trod enc P W 0 (fun _ => true) true k2 f2.type [u2] = some (xs[2]'(by omega)) := g2
  obtain ⟨a, rfl⟩ := str_trod h0 g0'
  obtain ⟨b, rfl⟩ := str_trod h1 g1'
  obtain ⟨A, n, c, ks, he, hus⟩ := us_trod h2 hq cq g2'
  have e2 : u2 = .slice A n c := by simpa using he
  subst e2
  exact ⟨⟨a, b, A, n, c, ks⟩, rfl, hus⟩
theorem en_open {H : Type} {enc : TypeId × Value → H} {P : Program} {W : World} {r : Reach} {b0 : Nat} {t q : TypeId} {fs : Array Field} {v : Value} {d : DataW H} {p : List MemPlace} (hs : P.underlying t = some (.struct fs)) (hone : oneCellFields P fs = true) (hC : P.cellsOf t = 3) (hsz : fs.size = 3)
    (h0 : ∃ f0, fs[0]? = some f0 ∧ P.underlying f0.type = some .string) (h1 : ∃ f1, fs[1]? = some f1 ∧ P.underlying f1.type = some .string) (h2 : ∃ f2, fs[2]? = some f2 ∧ P.underlying f2.type = some (.slice q)) (hq : P.underlying q = some (.int .u16)) (cq : P.cellsOf q = 1)
    (hv : Value.okWide P W r b0 t v) (h : DataW.Trod enc P W 0 (fun _ => true) true t v d p) : ∃ e : En, v = e.v ∧ US W W.heap.size e.A e.n e.c e.ks := by
  obtain ⟨cs, rfl, hcs⟩ := okWide_struct hs hv
  obtain ⟨l⟩ := cs
  obtain ⟨fuel, hf⟩ := h
  have hll : l.length = 3 := by simpa [hC] using hcs
  match l, hll with
  | [u0, u1, u2], _ =>
    have hf' : DataW.trod enc P W 0 (fun _ => true) true fuel t [u0, u1, u2] = some (d, p) := by simpa [Value.cells] using hf
    obtain ⟨e, he, hus⟩ := three_trod hs hone hsz h0 h1 h2 hq cq hf'
    refine ⟨e, ?_, hus⟩
    rw [he]
    rfl
theorem es_open {H : Type} {enc : TypeId × Value → H} {P : Program} {W : World} {r : Reach} {b0 : Nat} {t e q : TypeId} {fs : Array Field} {v : Value} {d : DataW H} {p : List MemPlace} (ht : P.underlying t = some (.slice e)) (hs : P.underlying e = some (.struct fs)) (hone : oneCellFields P fs = true) (hC : P.cellsOf e = 3) (hsz : fs.size = 3)
    (h0 : ∃ f0, fs[0]? = some f0 ∧ P.underlying f0.type = some .string) (h1 : ∃ f1, fs[1]? = some f1 ∧ P.underlying f1.type = some .string) (h2 : ∃ f2, fs[2]? = some f2 ∧ P.underlying f2.type = some (.slice q)) (hq : P.underlying q = some (.int .u16)) (cq : P.cellsOf q = 1)
    (hv : Value.okWide P W r b0 t v) (h : DataW.Trod enc P W 0 (fun _ => true) true t v d p) : ∃ A n c es, v = .slice A n c ∧ LS W W.heap.size A n c es := by
  obtain ⟨A, n, c, rfl⟩ := okWide_slice ht hv
  obtain ⟨fuel, hf⟩ := h
  rcases open_slice ht hf with ⟨hcs, _⟩ | ⟨a, len, cap, m, k, D, Pl, hcs, _, hl, hm, hmm, hdx, hx⟩
  · simp [Value.cells] at hcs
    obtain ⟨rfl, rfl, rfl⟩ := hcs
    exact ⟨_, _, _, [], rfl, rfl, Nat.le_refl _, Nat.zero_le _, fun h => absurd h (by omega), fun v h => (nomatch h)⟩
  · simp [Value.cells] at hcs
    obtain ⟨rfl, rfl, rfl⟩ := hcs
    simp only [if_true] at hmm
    subst hmm
    have each : ∀ i, i < n → ∃ x : En, (W.cell? (a.add (i * 3)) = some (.string ⟨x.t.toArray⟩) ∧ W.cell? ((a.add (i * 3)).add 1) = some (.string ⟨x.i.toArray⟩) ∧ W.cell? ((a.add (i * 3)).add 2) = some (.slice x.A x.n x.c)) ∧ US W W.heap.size x.A x.n x.c x.ks := by
      intro i hi
      obtain ⟨cs', hc1, hc2⟩ := hx i (by omega)
      rw [hC] at hc1
      obtain ⟨_, hlen, hcell⟩ := World.cells?_some hc1
      match cs', hlen with
      | [u0, u1, u2], _ =>
        obtain ⟨x, he, hus⟩ := three_trod hs hone hsz h0 h1 h2 hq cq hc2
        have c0 := hcell 0 (by omega)
        have c1 := hcell 1 (by omega)
        have c2 := hcell 2 (by omega)
        simp only [enCells, List.cons.injEq, and_true] at he
        obtain ⟨rfl, rfl, rfl⟩ := he
        rw [add_add] at c0
        exact ⟨x, ⟨by simpa using c0, c1, c2⟩, hus⟩
    letI : Inhabited En := ⟨en0⟩
    obtain ⟨x, hxs⟩ := Deep.choose_lt each
    refine ⟨_, _, _, (List.range n).map x, rfl, by simp, hl, hm, fun hn => ?_, fun y hy => ?_⟩
    · have hz := (hxs 0 (by omega)).1.1
      obtain ⟨b, o, sp⟩ := a
      have hsp : sp = none := by
        have := World.cell?_spot hz
        unfold Addr.add at this
        simpa using this
      subst hsp
      refine ⟨b, o, rfl, ?_, ⟨fun i hi => ?_, fun i hi => ?_, fun i hi => ?_⟩⟩
      · have := World.block_lt_of_cell? _ _ hz
        unfold Addr.add at this
        simpa using this
      · simp at hi
        have h1 := (hxs i (by omega)).1.1
        rw [add_none] at h1
        simpa using h1
      · simp at hi
        have h1 := (hxs i (by omega)).1.2.1
        rw [add_none, add_none] at h1
        simpa using h1
      · simp at hi
        have h1 := (hxs i (by omega)).1.2.2
        rw [add_none, add_none] at h1
        simpa using h1
    · obtain ⟨i, hi, rfl⟩ := List.mem_map.1 hy
      exact (hxs i (List.mem_range.1 hi)).2
end Go.Proofs.Ytfcopniihcaefaa
