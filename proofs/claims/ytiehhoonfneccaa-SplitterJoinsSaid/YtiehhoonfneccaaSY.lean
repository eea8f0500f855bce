/- The opening of frames. No condition. -/
import Derived.Test.YtiehhoonfneccaaSK
import Derived.Test.YtiehhoonfneccaaN
import Derived.Deep.Slices
import Derived.Deep.Fields
namespace Go.Proofs.Ytiehhoonfneccaa
open Go.ChangeShapes Go.WideShapes Go.ChangeAt Go.RowKit Go.Deep
def FrRng (f : Fr) : Prop := (0 ≤ f.V ∧ f.V ≤ 255) ∧ (0 ≤ f.F ∧ f.F ≤ 255) ∧ (-32768 ≤ f.S ∧ f.S ≤ 32767) ∧ (0 ≤ f.O ∧ f.O ≤ 255) ∧ 0 ≤ f.L ∧ f.L ≤ 4294967295
theorem fs_open {H : Type} {enc : TypeId × Value → H} {P : Program} {W : World} {r : Reach} {b0 : Nat} {t e q : TypeId} {fs gs : Array Field} {v : Value} {d : DataW H} {p : List MemPlace} (ht : P.underlying t = some (.slice e)) (hs : P.underlying e = some (.struct fs)) (hC : P.cellsOf e = 6) (hsz : fs.size = 2)
    (h0 : ∃ f0, fs[0]? = some f0 ∧ f0.offset = 0 ∧ P.cellsOf f0.type = 5 ∧ P.underlying f0.type = some (.struct gs)) (h1 : ∃ f1, fs[1]? = some f1 ∧ f1.offset = 5 ∧ P.cellsOf f1.type = 1 ∧ P.underlying f1.type = some (.slice q)) (hb : P.underlying q = some (.int .u8)) (cq : P.cellsOf q = 1)
    (hone : oneCellFields P gs = true) (hgz : gs.size = 5) (g0 : ∃ a, gs[0]? = some a ∧ P.underlying a.type = some (.int .u8)) (g1 : ∃ a, gs[1]? = some a ∧ P.underlying a.type = some (.int .u8)) (g2 : ∃ a, gs[2]? = some a ∧ P.underlying a.type = some (.int .i16)) (g3 : ∃ a, gs[3]? = some a ∧ P.underlying a.type = some (.int .u8)) (g4 : ∃ a, gs[4]? = some a ∧ P.underlying a.type = some (.int .u32))
    (hv : Value.okWide P W r b0 t v) (h : DataW.Trod enc P W 0 (fun _ => true) true t v d p) : ∃ A n c xs, v = .slice A n c ∧ FM W W.heap.size A n c xs ∧ ∀ f ∈ xs, FrRng f := by
  obtain ⟨f0, hf0, o0, s0, hg⟩ := h0
  obtain ⟨f1, hf1, o1, s1, hq⟩ := h1
  obtain ⟨A, n, c, rfl⟩ := okWide_slice ht hv
  obtain ⟨fuel, hf⟩ := h
  rcases open_slice ht hf with ⟨hcs, _⟩ | ⟨a, len, cap, m, k, D, Pl, hcs, _, hl, hm, hmm, _, hx⟩
  · simp [Value.cells] at hcs
    obtain ⟨rfl, rfl, rfl⟩ := hcs
    exact ⟨_, _, _, [], rfl, ⟨rfl, Nat.le_refl _, Nat.zero_le _, fun h => absurd h (by omega)⟩, fun f h => (nomatch h)⟩
  · simp [Value.cells] at hcs
    obtain ⟨rfl, rfl, rfl⟩ := hcs
    simp only [if_true] at hmm
    subst hmm
    have each : ∀ i, i < n → ∃ x : Fr, (W.cell? (a.add (i * 6)) = some (.int .u8 x.V) ∧ W.cell? ((a.add (i * 6)).add 1) = some (.int .u8 x.F) ∧ W.cell? ((a.add (i * 6)).add 2) = some (.int .i16 x.S) ∧ W.cell? ((a.add (i * 6)).add 3) = some (.int .u8 x.O) ∧ W.cell? ((a.add (i * 6)).add 4) = some (.int .u32 x.L) ∧
        ∃ A' c', W.cell? ((a.add (i * 6)).add 5) = some (.slice A' x.body.length c') ∧ BS W W.heap.size A' x.body.length c' x.body) ∧ FrRng x := by
      intro i hi
      obtain ⟨cs', hc1, hc2⟩ := hx i (by omega)
      rw [hC] at hc1
      obtain ⟨_, hlen, hcell⟩ := World.cells?_some hc1
      obtain ⟨xs, k', _, _, _, hxl, hgf⟩ := DataW.trod_struct hs hc2
      have t0 := hgf 0 f0 hf0
      have t1 := hgf 1 f1 hf1
      rw [o0, s0, List.getElem?_eq_getElem (by omega)] at t0
      rw [o1, s1, List.getElem?_eq_getElem (by omega)] at t1
      match cs', hlen with
      | [u0, u1, u2, u3, u4, u5], _ =>
        have t0' : DataW.trod enc P W 0 (fun _ => true) true k' f0.type [u0, u1, u2, u3, u4] = some (xs[0]'(by omega)) := t0
        have t1' : DataW.trod enc P W 0 (fun _ => true) true k' f1.type [u5] = some (xs[1]'(by omega)) := t1
        obtain ⟨A', n', c', l', hs1, hbs⟩ := bs_trod hq hb cq t1'
        have e5 : u5 = .slice A' n' c' := by simpa using hs1
        obtain ⟨ys, k2, _, _, _, hyl, hgg⟩ := DataW.trod_struct hg t0'
        have one : ∀ (j : Nat) (u : Value) (kk : IntKind) (hj : j < 5), (∃ a, gs[j]? = some a ∧ P.underlying a.type = some (.int kk)) → [u0, u1, u2, u3, u4][j]? = some u → ∃ z, u = .int kk z ∧ (Lit.int kk z).wf = true := by
          rintro j u kk hj ⟨ab, hab, hub⟩ hu
          have w1 := hgg j ab hab
          obtain ⟨oo, ss⟩ := hone_of hone j ab hab
          rw [oo, ss, List.getElem?_eq_getElem (by omega)] at w1
          have hd : ([u0, u1, u2, u3, u4].drop j).take 1 = [u] := by
            match j, hj, hu with
            | 0, _, hu => simpa using hu
            | 1, _, hu => simpa using hu
            | 2, _, hu => simpa using hu
            | 3, _, hu => simpa using hu
            | 4, _, hu => simpa using hu
          rw [hd] at w1
          obtain ⟨z, hz, _, hwf⟩ := DataW.trod_int hub w1
          exact ⟨z, by simpa using hz, hwf⟩
        obtain ⟨V, rfl, wV⟩ := one 0 u0 .u8 (by omega) g0 rfl
        obtain ⟨F, rfl, wF⟩ := one 1 u1 .u8 (by omega) g1 rfl
        obtain ⟨S, rfl, wS⟩ := one 2 u2 .i16 (by omega) g2 rfl
        obtain ⟨O, rfl, wO⟩ := one 3 u3 .u8 (by omega) g3 rfl
        obtain ⟨L, rfl, wL⟩ := one 4 u4 .u32 (by omega) g4 rfl
        subst e5
        have hln := hbs.len
        subst hln
        have q0 := hcell 0 (by omega)
        rw [add_add] at q0
        refine ⟨⟨V, F, S, O, L, l'⟩, ⟨by simpa using q0, hcell 1 (by omega), hcell 2 (by omega), hcell 3 (by omega), hcell 4 (by omega), A', c', hcell 5 (by omega), hbs⟩, bounds_u8 wV, bounds_u8 wF, bounds_i16 wS, bounds_u8 wO, bounds_u32 wL⟩
    letI : Inhabited Fr := ⟨⟨0, 0, 0, 0, 0, []⟩⟩
    obtain ⟨x, hxs⟩ := Deep.choose_lt each
    refine ⟨_, _, _, (List.range n).map x, rfl, ⟨by simp, hl, hm, fun hn => ?_⟩, fun y hy => ?_⟩
    · have hz := (hxs 0 (by omega)).1.1
      obtain ⟨b, o, sp⟩ := a
      have hsp : sp = none := by
        have := World.cell?_spot hz
        unfold Addr.add at this
        simpa using this
      subst hsp
      refine ⟨b, o, rfl, ?_, fun j hj => ?_⟩
      · have := World.block_lt_of_cell? _ _ hz
        unfold Addr.add at this
        simpa using this
      · simp at hj
        obtain ⟨q0, q1, q2, q3, q4, A', c', q5, q6⟩ := (hxs j (by omega)).1
        simp only [add_none] at q0 q1 q2 q3 q4 q5
        simp only [List.getElem_map, List.getElem_range]
        exact ⟨q0, q1, q2, q3, q4, A', c', q5, q6⟩
    · obtain ⟨i, hi, rfl⟩ := List.mem_map.1 hy
      exact (hxs i (List.mem_range.1 hi)).2
end Go.Proofs.Ytiehhoonfneccaa
