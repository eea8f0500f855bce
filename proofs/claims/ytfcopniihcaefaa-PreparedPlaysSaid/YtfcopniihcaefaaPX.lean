/- prepared: the state of PreparedPlays, the opening of its script. No condition. -/
import Derived.Test.YtfcopniihcaefaaPW
import Derived.Test.YtfcopniihcaefaaPO
namespace Go.Proofs.Ytfcopniihcaefaa
open Go.ChangeShapes Go.WideShapes Go.ChangeAt Go.RowKit Go.Deep
theorem and3 (n : Int) : bits .and .i64 n 3 = n % 4 := by
  show IntKind.i64.wrap ((BitVec.ofInt 64 n &&& BitVec.ofInt 64 3).toNat : Int) = _
  rw [BitVec.toNat_and, BitVec.toNat_ofInt, IntKind.wrap_i64]
  have e : (BitVec.ofInt 64 3).toNat = 2 ^ 2 - 1 := by decide
  rw [e, Nat.and_two_pow_sub_one_eq_mod]
  omega
/-- An operation: its kind, its entry. -/
structure AC where
  kd : Int
  e : En
structure AS (w : World) (B : Nat) (A : Option Addr) (n c : Nat) (xs : List AC) : Prop where
  len : xs.length = n
  cap : n ≤ c
  max : c ≤ maxLen
  at_ : 0 < n → ∃ g o, A = some ⟨g, o, none⟩ ∧ g < B ∧ ∀ k (h : k < xs.length), w.cell? ⟨g, o + k * 4, none⟩ = some (.int .i64 xs[k].kd) ∧ w.cell? ⟨g, o + k * 4 + 1, none⟩ = some (.string ⟨xs[k].e.t.toArray⟩) ∧ w.cell? ⟨g, o + k * 4 + 2, none⟩ = some (.string ⟨xs[k].e.i.toArray⟩) ∧ w.cell? ⟨g, o + k * 4 + 3, none⟩ = some (.slice xs[k].e.A xs[k].e.n xs[k].e.c)
  us : ∀ x ∈ xs, US w B x.e.A x.e.n x.e.c x.e.ks
theorem as_open {H : Type} {enc : TypeId × Value → H} {P : Program} {W : World} {r : Reach} {b0 : Nat} {t e q : TypeId} {fs gs : Array Field} {v : Value} {d : DataW H} {p : List MemPlace} (ht : P.underlying t = some (.slice e)) (hs : P.underlying e = some (.struct gs)) (hC : P.cellsOf e = 4) (hgz : gs.size = 2)
    (k0 : ∃ f0, gs[0]? = some f0 ∧ f0.offset = 0 ∧ P.cellsOf f0.type = 1 ∧ P.underlying f0.type = some (.int .i64)) (k1 : ∃ f1, gs[1]? = some f1 ∧ f1.offset = 1 ∧ P.cellsOf f1.type = 3 ∧ P.underlying f1.type = some (.struct fs))
    (hone : oneCellFields P fs = true) (hsz : fs.size = 3)
    (h0 : ∃ f0, fs[0]? = some f0 ∧ P.underlying f0.type = some .string) (h1 : ∃ f1, fs[1]? = some f1 ∧ P.underlying f1.type = some .string) (h2 : ∃ f2, fs[2]? = some f2 ∧ P.underlying f2.type = some (.slice q)) (hq : P.underlying q = some (.int .u16)) (cq : P.cellsOf q = 1)
    (hv : Value.okWide P W r b0 t v) (h : DataW.Trod enc P W 0 (fun _ => true) true t v d p) : ∃ A n c xs, v = .slice A n c ∧ AS W W.heap.size A n c xs := by
  obtain ⟨f0, hf0, o0, s0, hk0⟩ := k0
  obtain ⟨f1, hf1, o1, s1, hk1⟩ := k1
  obtain ⟨A, n, c, rfl⟩ := okWide_slice ht hv
  obtain ⟨fuel, hf⟩ := h
  rcases open_slice ht hf with ⟨hcs, _⟩ | ⟨a, len, cap, m, k, D, Pl, hcs, _, hl, hm, hmm, hdx, hx⟩
  · simp [Value.cells] at hcs
    obtain ⟨rfl, rfl, rfl⟩ := hcs
    exact ⟨_, _, _, [], rfl, rfl, Nat.le_refl _, Nat.zero_le _, fun h => absurd h (by omega), fun v h => (nomatch h)⟩
  · simp [Value.cells] at hcs
    obtain ⟨rfl, rfl, rfl⟩ := hcs
    simp only [if_true] at hmm
    subst hmm
    have each : ∀ i, i < n → ∃ x : AC, (W.cell? (a.add (i * 4)) = some (.int .i64 x.kd) ∧ W.cell? ((a.add (i * 4)).add 1) = some (.string ⟨x.e.t.toArray⟩) ∧ W.cell? ((a.add (i * 4)).add 2) = some (.string ⟨x.e.i.toArray⟩) ∧ W.cell? ((a.add (i * 4)).add 3) = some (.slice x.e.A x.e.n x.e.c)) ∧ US W W.heap.size x.e.A x.e.n x.e.c x.e.ks := by
      intro i hi
      obtain ⟨cs', hc1, hc2⟩ := hx i (by omega)
      rw [hC] at hc1
      obtain ⟨_, hlen, hcell⟩ := World.cells?_some hc1
      obtain ⟨ys, k', _, _, _, hyl, hgf⟩ := DataW.trod_struct hs hc2
      have t0 := hgf 0 f0 hf0
      have t1 := hgf 1 f1 hf1
      rw [o0, s0, List.getElem?_eq_getElem (by omega)] at t0
      rw [o1, s1, List.getElem?_eq_getElem (by omega)] at t1
      match cs', hlen with
      | [u0, u1, u2, u3], _ =>
        have t0' : DataW.trod enc P W 0 (fun _ => true) true k' f0.type [u0] = some (ys[0]'(by omega)) := t0
        have t1' : DataW.trod enc P W 0 (fun _ => true) true k' f1.type [u1, u2, u3] = some (ys[1]'(by omega)) := t1
        obtain ⟨z, hz, _, _⟩ := DataW.trod_int hk0 t0'
        have e0 : u0 = .int .i64 z := by simpa using hz
        obtain ⟨x, he, hus⟩ := three_trod hk1 hone hsz h0 h1 h2 hq cq t1'
        have c0 := hcell 0 (by omega)
        have c1 := hcell 1 (by omega)
        have c2 := hcell 2 (by omega)
        have c3 := hcell 3 (by omega)
        simp only [enCells, List.cons.injEq, and_true] at he
        obtain ⟨rfl, rfl, rfl⟩ := he
        subst e0
        rw [add_add] at c0
        exact ⟨⟨z, x⟩, ⟨by simpa using c0, c1, c2, c3⟩, hus⟩
    letI : Inhabited AC := ⟨⟨0, en0⟩⟩
    obtain ⟨x, hxs⟩ := Deep.choose_lt each
    refine ⟨_, _, _, (List.range n).map x, rfl, by simp, hl, hm, fun hn => ?_, fun y hy => ?_⟩
    · have hz := (hxs 0 (by omega)).1.1
      obtain ⟨b, o, sp⟩ := a
      have hsp : sp = none := by
        have := World.cell?_spot hz
        unfold Addr.add at this
        simpa using this
      subst hsp
      refine ⟨b, o, rfl, ?_, fun i hi => ?_⟩
      · have := World.block_lt_of_cell? _ _ hz
        unfold Addr.add at this
        simpa using this
      · simp at hi
        obtain ⟨g0, g1, g2, g3⟩ := (hxs i (by omega)).1
        rw [add_none] at g0
        rw [add_none, add_none] at g1 g2 g3
        refine ⟨by simpa using g0, by simpa using g1, by simpa using g2, by simpa using g3⟩
    · obtain ⟨i, hi, rfl⟩ := List.mem_map.1 hy
      exact (hxs i (List.mem_range.1 hi)).2
/-- The two caches, side by side: P: the cache's block; Q: the box of the document's. -/
structure PL (w : World) (P Q m : Nat) (n0 : Int) (v : Value) (L : List KE) : Prop where
  ck : CK w (P + 1) P m v L
  uq : UQ L
  ex : ∃ A c es, Row w Q 28 #[.int .i64 n0, .slice A L.length c] ∧ RL (fun g => Far w P v g ∧ g ≠ Q) w A L.length c es ∧ es.map En.k = L
  far : Far w P v Q
theorem PL.below {w w' : World} {P Q m : Nat} {n0 : Int} {v : Value} {L : List KE} (h : PL w P Q m n0 v L) (hb : Below w.heap.size w w') : PL w' P Q m n0 v L := by
  obtain ⟨A, c, es, h1, h2, h3⟩ := h.ex
  have hk := Kw.of_below hb P v
  exact ⟨h.ck.below hb, h.uq, ⟨A, c, es, h1.below hb h1.lt, h2.kept (fun g hg => ⟨⟨(hk.keep g hg.1).1, hg.2⟩, (hk.keep g hg.1).2⟩), h3⟩, (hk.keep Q h.far).1⟩
/-- What is not touched by a change of the cache. -/
theorem PL.rest {w w' : World} {P Q m : Nat} {n0 : Int} {v v' : Value} {L : List KE} (h : PL w P Q m n0 v L) (hk : Kw w w' P v v') : Far w' P v' Q ∧ ∃ A c es, Row w' Q 28 #[.int .i64 n0, .slice A L.length c] ∧ RL (fun g => Far w' P v' g ∧ g ≠ Q) w' A L.length c es ∧ es.map En.k = L := by
  obtain ⟨A, c, es, h1, h2, h3⟩ := h.ex
  exact ⟨(hk.keep Q h.far).1, A, c, es, hk.row h1 h.far, h2.kept (fun g hg => ⟨⟨(hk.keep g hg.1).1, hg.2⟩, (hk.keep g hg.1).2⟩), h3⟩
/-- A row that the document's operation made, as one that lies apart. -/
theorem ER.rl {w w' : World} {P Q : Nat} {v u : Value} {es0 es : List En} (h : ER w' w.heap.size u es) (hP : P < w.heap.size) (hQ : Q < w.heap.size) (hv : ∀ g, v.ownBlock = some g → g < w.heap.size) (hb : Below w.heap.size w w') {A0 : Option Addr} {n0 c0 : Nat} (h0 : RL (fun g => Far w P v g ∧ g ≠ Q) w A0 n0 c0 es0) (hsub : ∀ e ∈ es, e ∈ es0 ∨ UF (fun g => Far w' P v g ∧ g ≠ Q) w' e.A e.n e.c e.ks) :
    ∃ A c, u = .slice A es.length c ∧ RL (fun g => Far w' P v g ∧ g ≠ Q) w' A es.length c es := by
  obtain ⟨A, c, rfl, hc, hm, _, hat⟩ := h.form
  have hk := Kw.of_below hb P v
  refine ⟨A, c, rfl, rfl, hc, hm, fun hn => ?_, fun e he => ?_⟩
  · obtain ⟨g, rfl, hg1, hg2, hes⟩ := hat hn
    exact ⟨g, 0, rfl, ⟨⟨hg2, by omega, fun x => by have := hv g x.symm; omega⟩, by omega⟩, hes⟩
  · rcases hsub e he with h1 | h1
    · exact (h0.us e h1).kept (fun g hg => ⟨⟨(hk.keep g hg.1).1, hg.2⟩, (hk.keep g hg.1).2⟩)
    · exact h1
theorem CA.farT {w : World} {base p m b : Nat} {t : TypeId} {v : Value} {es : List En} {cs : Array Value} (h : CA w base p m v es) (hb : Row w b t cs) (ht : t ≠ 52) (hp : b ≠ p) (hv : some b ≠ v.ownBlock) (i : Nat) (u : Value) : CA (w.setCell ⟨b, i, none⟩ u) base p m v es :=
  ⟨h.row.far (fun e => hp e.symm) u, h.el.kept (set_grown w b i u) (.inr (fun e => hv e.symm)), fun e he => (h.ks e he).typed (set_grown w b i u) hb ht, h.lt, by simpa using h.le⟩
/-- The document's cache stored into its box. -/
theorem PL.store {w : World} {P Q m : Nat} {n0 : Int} {v : Value} {L : List KE} {A : Option Addr} {c : Nat} {es : List En} {x y : Value} (hck : CK w (P + 1) P m v L) (huq : UQ L) (hfar : Far w P v Q) (hrow : Row w Q 28 #[x, y]) (hrl : RL (fun g => Far w P v g ∧ g ≠ Q) w A L.length c es) (hm : es.map En.k = L) :
    PL ((w.setCell ⟨Q, 0, none⟩ (.int .i64 n0)).setCell ⟨Q, 1, none⟩ (.slice A L.length c)) P Q m n0 v L := by
  obtain ⟨es0, hca, hk0⟩ := hck.ex
  have hca1 := hca.farT hrow (by decide) hfar.ne hfar.row 0 (.int .i64 n0)
  have hrow1 := hrow.set_ 0 (.int .i64 n0)
  have hca2 := hca1.farT hrow1 (by decide) hfar.ne hfar.row 1 (.slice A L.length c)
  have hblk : ∀ g, g ≠ Q → ((w.setCell ⟨Q, 0, none⟩ (.int .i64 n0)).setCell ⟨Q, 1, none⟩ (.slice A L.length c)).heap[g]? = w.heap[g]? := fun g hg =>
    (Below.heap_setCell _ ⟨Q, 1, none⟩ _ g hg).trans (Below.heap_setCell _ ⟨Q, 0, none⟩ _ g hg)
  have hsz : ((w.setCell ⟨Q, 0, none⟩ (.int .i64 n0)).setCell ⟨Q, 1, none⟩ (.slice A L.length c)).heap.size = w.heap.size := by simp
  exact ⟨⟨⟨es0, hca2, hk0⟩, hck.big⟩, huq, ⟨A, c, es, hrow.put2 _ _, hrl.kept (fun g hg => ⟨⟨⟨by rw [hsz]; exact hg.1.lt, hg.1.ne, hg.1.row⟩, hg.2⟩, hblk g hg.2⟩), hm⟩, ⟨by rw [hsz]; exact hfar.lt, hfar.ne, hfar.row⟩⟩
end Go.Proofs.Ytfcopniihcaefaa
