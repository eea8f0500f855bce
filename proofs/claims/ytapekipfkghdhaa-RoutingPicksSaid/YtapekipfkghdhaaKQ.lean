/- The opening of values. No condition. -/
import Derived.Test.YtapekipfkghdhaaKO
import Derived.Deep.Fields
import Derived.SizedLaws
namespace Go.Proofs.Ytapekipfkghdhaa
open Go.ChangeShapes Go.WideShapes Go.ChangeAt Go.RowKit Go.Deep
/-- What is told of the values' memory. -/
def VWide {H : Type} (d : DataW H) (vs : List Val) : Prop := vs = [] ∨ ∃ elems sp, d = .slice elems sp ∧ ∀ i (h : i < vs.length), ∃ d0 d1, elems[i]? = some (.agg [d0, d1]) ∧ Wide d1 vs[i].p.c
theorem bs_trod_w {H : Type} {enc : TypeId × Value → H} {P : Program} {W : World} {fuel : Nat} {t e : TypeId} {cs : List Value} {y : DataW H × List MemPlace} (ht : P.underlying t = some (.slice e)) (he : P.underlying e = some (.int .u8)) (hc : P.cellsOf e = 1)
    (hf : DataW.trod enc P W 0 (fun _ => true) true fuel t cs = some y) : ∃ A n c l, cs = [.slice A n c] ∧ BS W W.heap.size A n c l ∧ Wide y.1 c := by
  obtain ⟨A, n, c, l, hcs, hb⟩ := bs_trod ht he hc hf
  refine ⟨A, n, c, l, hcs, hb, ?_⟩
  rcases open_ints ht he hc hf with ⟨hcs2, hx⟩ | ⟨x, n', c', zs, hcs2, _, hl, hm, hz, hx, hcell, hwz⟩
  · rw [hcs] at hcs2
    simp only [List.cons.injEq, Value.slice.injEq, and_true] at hcs2
    rw [hx]
    exact .inl ⟨rfl, hcs2.2.2⟩
  · rw [hcs] at hcs2
    simp only [List.cons.injEq, Value.slice.injEq, and_true] at hcs2
    rw [hx]
    refine .inr ⟨_, _, rfl, ?_⟩
    rw [if_pos rfl] at hz
    simp [lits]
    omega
theorem all_mem {H : Type} {P : Program} {e : TypeId} : ∀ {ds : List (DataW H)} {i : Nat} {d : DataW H}, ds[i]? = some d → ∀ n ∈ d.weights P e, n ∈ DataW.weightsAll P e ds
  | d0 :: ds, 0, d, hd, n, hn => by
    simp only [List.getElem?_cons_zero, Option.some.injEq] at hd
    subst hd
    simp only [DataW.weightsAll, List.mem_append]
    exact .inl hn
  | d0 :: ds, i + 1, d, hd, n, hn => by
    simp only [List.getElem?_cons_succ] at hd
    simp only [DataW.weightsAll, List.mem_append]
    exact .inr (all_mem hd n hn)
  | [], _, _, hd, _, _ => by simp at hd
theorem vs_bound {H : Type} {P : Program} {ts : List TypeId} {ds : List (DataW H)} (h : (DataW.weightsEach P ts ds).all (· ≤ reachBytes) = true) {j : Nat} {t e t0 t1 q : TypeId} {fs : Array Field} {d : DataW H} {vs : List Val} (ht : ts[j]? = some t) (hd : ds[j]? = some d) (hu : P.underlying t = some (.slice e)) (hs : P.underlying e = some (.struct fs)) (hfs : fs.toList.map (·.type) = [t0, t1]) (h1 : P.underlying t1 = some (.slice q)) (hb : P.bytesOf q = 1) (hw : VWide d vs) : ∀ x ∈ vs, x.p.c ≤ 140737488351232 := by
  intro x hx
  obtain ⟨i, hi, rfl⟩ := List.mem_iff_getElem.1 hx
  rcases hw with rfl | ⟨elems, sp, rfl, hel⟩
  · exact absurd hi (by simp)
  · obtain ⟨d0, d1, he, hwd⟩ := hel i hi
    rcases hwd with ⟨_, hc⟩ | ⟨es, sp2, rfl, hc⟩
    · rw [hc]; exact Nat.zero_le _
    · have hm1 : (es.length + sp2.length) * P.bytesOf q ∈ (DataW.agg [d0, .slice es sp2] : DataW H).weights P e := by
        simp [DataW.weights, hs, hfs, DataW.weightsEach, h1]
      have hm2 : (es.length + sp2.length) * P.bytesOf q ∈ (DataW.slice elems sp : DataW H).weights P t := by
        simp only [DataW.weights, hu, List.mem_cons, List.mem_append]
        exact .inr (.inl (all_mem he _ hm1))
      have hm3 : (es.length + sp2.length) * P.bytesOf q ≤ reachBytes := by simpa using List.all_eq_true.1 h _ (DataW.weights_mem_each ht hd _ hm2)
      rw [hb] at hm3
      unfold reachBytes at hm3
      omega
theorem vs_open {H : Type} {enc : TypeId × Value → H} {P : Program} {W : World} {r : Reach} {b0 : Nat} {t e q : TypeId} {fs : Array Field} {v : Value} {d : DataW H} {p : List MemPlace} (ht : P.underlying t = some (.slice e)) (hs : P.underlying e = some (.struct fs)) (hone : oneCellFields P fs = true) (hC : P.cellsOf e = 2) (hsz : fs.size = 2)
    (hk : ∃ f0, fs[0]? = some f0 ∧ P.underlying f0.type = some (.int .i64)) (hq : ∃ f1, fs[1]? = some f1 ∧ P.underlying f1.type = some (.slice q)) (hb : P.underlying q = some (.int .u8)) (cq : P.cellsOf q = 1)
    (hv : Value.okWide P W r b0 t v) (h : DataW.Trod enc P W 0 (fun _ => true) true t v d p) : ∃ A n c vs, v = .slice A n c ∧ VS W W.heap.size A n c vs ∧ VWide d vs := by
  obtain ⟨f0, hf0, hk⟩ := hk
  obtain ⟨f1, hf1, hq⟩ := hq
  obtain ⟨A, n, c, rfl⟩ := okWide_slice ht hv
  obtain ⟨fuel, hf⟩ := h
  rcases open_slice ht hf with ⟨hcs, _⟩ | ⟨a, len, cap, m, k, D, Pl, hcs, _, hl, hm, hmm, hdx, hx⟩
  · simp [Value.cells] at hcs
    obtain ⟨rfl, rfl, rfl⟩ := hcs
    exact ⟨_, _, _, [], rfl, ⟨rfl, Nat.le_refl _, Nat.zero_le _, fun v h => (nomatch h), fun h => absurd h (by omega)⟩, .inl rfl⟩
  · simp [Value.cells] at hcs
    obtain ⟨rfl, rfl, rfl⟩ := hcs
    simp only [if_true] at hmm
    subst hmm
    have each : ∀ i, i < n → ∃ x : Val, W.cell? (a.add (i * 2)) = some (.int .i64 x.kind) ∧ W.cell? ((a.add (i * 2)).add 1) = some x.p.v ∧ (-9223372036854775808 ≤ x.kind ∧ x.kind ≤ 9223372036854775807) ∧ BS W W.heap.size x.p.A x.p.n x.p.c x.p.l ∧ ∃ d0 d1, D i = .agg [d0, d1] ∧ Wide d1 x.p.c := by
      intro i hi
      obtain ⟨cs', hc1, hc2⟩ := hx i (by omega)
      rw [hC] at hc1
      obtain ⟨_, hlen, hcell⟩ := World.cells?_some hc1
      obtain ⟨xs, k', _, hxe, _, hxl, hg⟩ := DataW.trod_struct hs hc2
      have g0 := hg 0 f0 hf0
      have g1 := hg 1 f1 hf1
      obtain ⟨o0, s0⟩ := hone_of hone 0 f0 hf0
      obtain ⟨o1, s1⟩ := hone_of hone 1 f1 hf1
      rw [o0, s0, List.getElem?_eq_getElem (by omega)] at g0
      rw [o1, s1, List.getElem?_eq_getElem (by omega)] at g1
      match cs', hlen with
      | [u0, u1], _ =>
        have g0' : DataW.trod enc P W 0 (fun _ => true) true k' f0.type [u0] = some (xs[0]'(by omega)) := g0
        have g1' : DataW.trod enc P W 0 (fun _ => true) true k' f1.type [u1] = some (xs[1]'(by omega)) := g1
        obtain ⟨z, hz1, _, hwf⟩ := DataW.trod_int hk g0'
        obtain ⟨A', n', c', l', hs1, hbs, hwd⟩ := bs_trod_w hq hb cq g1'
        have e0 : u0 = .int .i64 z := by simpa using hz1
        have e1 : u1 = .slice A' n' c' := by simpa using hs1
        have c0 := hcell 0 (by omega)
        have c1 := hcell 1 (by omega)
        refine ⟨⟨z, ⟨A', n', c', l'⟩⟩, ?_, ?_, bounds_i64 hwf, hbs, (xs[0]'(by omega)).1, (xs[1]'(by omega)).1, ?_, hwd⟩
        · rw [add_add] at c0
          simp at c0
          rw [c0, e0]
        · simp at c1
          rw [c1, e1]
          rfl
        · have h1 := congrArg Prod.fst hxe
          simp only at h1
          rw [h1]
          have h2 : ∀ (ys : List (DataW H × List MemPlace)) (hy : ys.length = 2), ys.map (·.1) = [(ys[0]'(by omega)).1, (ys[1]'(by omega)).1] := by
            intro ys hy
            match ys, hy with
            | [a0, a1], _ => rfl
          exact congrArg DataW.agg (h2 xs (by omega))
    obtain ⟨x, hxs⟩ := Deep.choose_lt each
    refine ⟨_, _, _, (List.range n).map x, rfl, ⟨by simp, hl, hm, fun y hy => ?_, fun hn => ?_⟩, .inr ⟨_, _, congrArg Prod.fst hdx, fun i hi => ?_⟩⟩
    · obtain ⟨i, hi, rfl⟩ := List.mem_map.1 hy
      exact (hxs i (List.mem_range.1 hi)).2.2.1
    · have h0 := (hxs 0 (by omega)).1
      obtain ⟨b, o, sp⟩ := a
      have hsp : sp = none := by
        have := World.cell?_spot h0
        unfold Addr.add at this
        simpa using this
      subst hsp
      refine ⟨b, o, rfl, ?_, fun i hi => ?_, fun i hi => ?_, fun i hi => ?_⟩
      · have := World.block_lt_of_cell? _ _ h0
        unfold Addr.add at this
        simpa using this
      · simp at hi
        have h1 := (hxs i (by omega)).1
        rw [add_none] at h1
        simpa using h1
      · simp at hi
        have h1 := (hxs i (by omega)).2.1
        rw [add_none, add_none] at h1
        simpa using h1
      · simp at hi
        simpa using (hxs i (by omega)).2.2.2.1
    · simp at hi
      obtain ⟨d0, d1, h1, h2⟩ := (hxs i hi).2.2.2.2
      refine ⟨d0, d1, ?_, by simpa using h2⟩
      rw [List.getElem?_map, List.getElem?_range hi, ← h1]
      rfl
end Go.Proofs.Ytapekipfkghdhaa
