/- The law's headOf, framesOf and the comparison of frames: what they compute. Of at most 2^36 frames. -/
import Derived.Test.YtiehhoonfneccaaSJ
import Derived.Test.YtiehhoonfneccaaHW
import Derived.Handy
namespace Go.Proofs.Ytiehhoonfneccaa
open Go.RowKit
theorem headOf_any (V F S O L : Int) (w : World) :
    Calls Try.prog 38 #[hdr V F S O L] w fun e w' => e = .returned (hdr V F S O L) ∧ Below w.heap.size w w' := by
  go_enter Try.func38, Try.ntmps38
  go_wp2_with fail
  go_returns
  exact ⟨rfl, below_new (below_new (Below.refl _ _) _) _⟩
/-- Frames in memory. -/
structure FM (w : World) (B : Nat) (A : Option Addr) (n c : Nat) (fs : List Fr) : Prop where
  len : fs.length = n
  cap : n ≤ c
  max : c ≤ maxLen
  at_ : 0 < n → ∃ g o, A = some ⟨g, o, none⟩ ∧ g < B ∧ ∀ j (h : j < fs.length), w.cell? ⟨g, o + j * 6, none⟩ = some (.int .u8 fs[j].V) ∧ w.cell? ⟨g, o + j * 6 + 1, none⟩ = some (.int .u8 fs[j].F) ∧ w.cell? ⟨g, o + j * 6 + 2, none⟩ = some (.int .i16 fs[j].S) ∧
    w.cell? ⟨g, o + j * 6 + 3, none⟩ = some (.int .u8 fs[j].O) ∧ w.cell? ⟨g, o + j * 6 + 4, none⟩ = some (.int .u32 fs[j].L) ∧ ∃ A' c', w.cell? ⟨g, o + j * 6 + 5, none⟩ = some (.slice A' fs[j].body.length c') ∧ BS w B A' fs[j].body.length c' fs[j].body
theorem FM.then_ {w w' : World} {n c : Nat} {A : Option Addr} {fs : List Fr} (h : FM w w.heap.size A n c fs) (hb : Below w.heap.size w w') : FM w' w'.heap.size A n c fs :=
  ⟨h.len, h.cap, h.max, fun hn => by
    obtain ⟨g, o, e, hg, hp⟩ := h.at_ hn
    refine ⟨g, o, e, Nat.lt_of_lt_of_le hg hb.size, fun j hj => ?_⟩
    obtain ⟨h0, h1, h2, h3, h4, A', c', h5, h6⟩ := hp j hj
    exact ⟨(hb.cell (p := ⟨g, _, none⟩) hg).trans h0, (hb.cell (p := ⟨g, _, none⟩) hg).trans h1, (hb.cell (p := ⟨g, _, none⟩) hg).trans h2, (hb.cell (p := ⟨g, _, none⟩) hg).trans h3, (hb.cell (p := ⟨g, _, none⟩) hg).trans h4, A', c', (hb.cell (p := ⟨g, _, none⟩) hg).trans h5, (h6.below hb).more hb.size⟩⟩
theorem FrsIn.all {w : World} {base : Nat} : ∀ {fs : List Fr} {xs : List Value}, FrsIn w base fs xs → ∀ j (h : j < fs.length), ∃ A c, xs[j * 6]? = some (.int .u8 fs[j].V) ∧ xs[j * 6 + 1]? = some (.int .u8 fs[j].F) ∧ xs[j * 6 + 2]? = some (.int .i16 fs[j].S) ∧ xs[j * 6 + 3]? = some (.int .u8 fs[j].O) ∧ xs[j * 6 + 4]? = some (.int .u32 fs[j].L) ∧ xs[j * 6 + 5]? = some (.slice A fs[j].body.length c) ∧ SW w A fs[j].body.length c fs[j].body
  | [], _, _, j, h => absurd h (by simp)
  | f :: fs, xs, ⟨A, c, ys, e, h1, h2⟩, 0, _ => by
    obtain ⟨A', c', e', hsw⟩ := SW.of_own h1
    injection e' with e1 _ e3
    subst e1
    subst e3
    subst e
    exact ⟨A, c, rfl, rfl, rfl, rfl, rfl, rfl, hsw⟩
  | f :: fs, xs, ⟨A, c, ys, e, h1, h2⟩, j + 1, h => by
    obtain ⟨A', c', e0, e1, e2, e3, e4, e5, e6⟩ := FrsIn.all h2 j (by simpa using h)
    subst e
    have hx : ∀ i, (frCells f A c ++ ys)[(j + 1) * 6 + i]? = ys[j * 6 + i]? := fun i => by
      rw [List.getElem?_append_right (by simp [frCells]; omega)]
      rw [show (j + 1) * 6 + i - (frCells f A c).length = j * 6 + i by simp [frCells]; omega]
    exact ⟨A', c', (hx 0).trans e0, (hx 1).trans e1, (hx 2).trans e2, (hx 3).trans e3, (hx 4).trans e4, (hx 5).trans e5, e6⟩
theorem Frs.fm {w : World} {base : Nat} {A : Option Addr} {n c : Nat} {fs : List Fr} {xs : List Value} (h : Frs w base (.slice A n c) fs xs) : FM w w.heap.size A n c fs := by
  have hr := h.row
  rcases hr.2 with ⟨hv, hn⟩ | ⟨g, cap, cur, hv, _, hk, hc, hm, hs, ht⟩
  · injection hv with h1 h2 h3
    exact ⟨by omega, by omega, by rw [h3]; exact Nat.zero_le _, fun hx => absurd hx (by omega)⟩
  · injection hv with h1 h2 h3
    refine ⟨h2.symm, by omega, by omega, fun hx => ⟨g, 0, h1, (Array.getElem?_eq_some_iff.1 hk).1, fun j hj => ?_⟩⟩
    obtain ⟨A', c', e0, e1, e2, e3, e4, e5, e6⟩ := h.cells.all j hj
    subst h1
    rw [h2, h3] at hr
    have hx : ∀ i, i < 6 → w.cell? ⟨g, 0 + j * 6 + i, none⟩ = xs[j * 6 + i]? := fun i hi => by
      rw [Nat.zero_add]
      exact hr.cellAt (j * 6 + i) (by omega)
    exact ⟨(hx 0 (by omega)).trans e0, (hx 1 (by omega)).trans e1, (hx 2 (by omega)).trans e2, (hx 3 (by omega)).trans e3, (hx 4 (by omega)).trans e4, A', c', (hx 5 (by omega)).trans e5, e6⟩
/-- A frame's cells as the reference has them. -/
def fxCells (f : Fr) : List Value := [.int .u8 f.V, .int .u8 f.F, .int .i16 f.S, .int .u8 f.O, .int .u32 f.L, .string ⟨f.body.toArray⟩]
/-- Frames as the reference has them, in a row of the call's own. -/
def FX (w : World) (base : Nat) (v : Value) (fs : List Fr) : Prop := w.ownsRow base 64 6 v fs.length (fs.flatMap fxCells)
theorem FX.nil (w : World) (base : Nat) : FX w base (.slice none 0 0) [] := World.ownsRow_nil _ _ _ _
theorem info_fx : (Try.prog.info? 64).map (fun i => (i.zero.map (·.cells.size), i.size, i.bytes)) = some (some 6, 6, 32) := by kernel_rfl
theorem FX.run_snoc {w : World} {base g : Nat} {v : Value} {fs : List Fr} (h : FX w base v fs) (f : Fr) (hg : Row w g 64 (fxCells f).toArray) (hb : base ≤ w.heap.size) (hn : fs.length ≤ 1099511627776) (ty : TypeId) :
    ∃ v' w', (Builtin.append_ #[48, 48] ty #[v, .slice (some ⟨g, 0, none⟩) 1 1]).run Try.prog w = .ok v' w' ∧ FX w' base v' (fs ++ [f]) ∧ w.grownBy w' v.ownBlock := by
  obtain ⟨i, hi⟩ : ∃ i, Try.prog.info? 64 = some i := by
    have := info_fx
    cases h : Try.prog.info? 64 with
    | none => rw [h] at this; cases this
    | some i => exact ⟨i, rfl⟩
  have hif := info_fx
  rw [hi] at hif
  simp only [Option.map_some, Option.some.injEq, Prod.mk.injEq] at hif
  obtain ⟨hz, hsz, hby⟩ := hif
  obtain ⟨z, hz1, hz2⟩ := Option.map_eq_some_iff.1 hz
  obtain ⟨v', w', h1, hown, hgr, _⟩ := run_append_own (P := Try.prog) w base 48 ty 64 i z 6 32 Try.underlying48 hi hz1 hsz hby hz2 (by omega) v fs.length (fs.flatMap fxCells) h ⟨g, 0, none⟩ 1 1 (fxCells f) rfl
    (fun j u hj => by rw [add_none, Nat.zero_add, hg.cell]; simpa using hj) (by intro u hu; simp [fxCells] at hu; rcases hu with rfl | rfl | rfl | rfl | rfl | rfl <;> rfl) (by unfold maxLen; omega) (by omega) hb
  exact ⟨v', w', h1, by unfold FX; simpa using hown, hgr⟩
theorem step_append_fx {ops : Array Oper} {o : Oper} {a : Act} {w : World} {K : Act → World → Prop} {Q : Exit → Act → World → Prop} {E : Prop} {base : Nat} {v : Value} {fs : List Fr}
    (hg : o.guard = none) (s x : Operand) (hop : o.op = Op.call { callee := Callee.builtin Builtin.append, args := #[s, x], argTypes := #[48, 48] })
    (hs : a.eval s = v) (g : Nat) (hx : a.eval x = .slice (some ⟨g, 0, none⟩) 1 1) (hF : FX w base v fs) (f : Fr) (hrow : Row w g 64 (fxCells f).toArray) (hb : base ≤ w.heap.size) (hn : fs.length ≤ 1099511627776)
    (hK : ∀ v' w', FX w' base v' (fs ++ [f]) → w.grownBy w' v.ownBlock → K (a.put o.dst v') w') :
    if Region.wanted o (yielded ops a.tmps) = true then Oper.wp Try.prog o a w K Q else E := by
  have hw : Region.wanted o (yielded ops a.tmps) = true := by simp [Region.wanted, hg]
  rw [if_pos hw]
  obtain ⟨v', w', hrun, r1, r2⟩ := hF.run_snoc f hrow hb hn o.type
  unfold Oper.wp
  simp [execOp, hop, resolve, invoke, builtin, hs, hx, hrun, Result.andThen]
  exact hK _ _ r1 r2
end Go.Proofs.Ytiehhoonfneccaa
