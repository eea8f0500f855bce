/- Pieces of bytes that come to frames: plain laws; one frame of a row. No condition. -/
import Derived.Test.YtiehhoonfneccaaSI
namespace Go.Proofs.Ytiehhoonfneccaa
open Go.RowKit
theorem sp_len (ver : Int) : ∀ (n : Nat) (l : List UInt8), l.length ≤ n → (sp ver l).2.1.length ≤ l.length := by
  intro n
  induction n with
  | zero =>
    intro l h
    obtain rfl : l = [] := List.eq_nil_of_length_eq_zero (by omega)
    rw [sp_nil]
    exact Nat.le_refl _
  | succ n ih =>
    intro l h
    by_cases h9 : l.length < 9
    · rw [sp_short _ _ h9]
      exact Nat.le_refl _
    · by_cases he : erOf ver l = 0
      · by_cases hw : l.length < 9 + (hL l).toNat
        · rw [sp_wait _ _ h9 he hw]
          exact Nat.le_refl _
        · rw [sp_one _ _ h9 he hw]
          have := ih (l.drop (9 + (hL l).toNat)) (by rw [List.length_drop]; omega)
          rw [List.length_drop] at this
          exact Nat.le_trans this (Nat.sub_le _ _)
      · rw [sp_err _ _ h9 he]
        exact Nat.zero_le _
theorem sp_prefix {ver : Int} {Bs : List UInt8} {fs : List Fr} (h : sp ver Bs = (fs, [], 0)) (T : Nat) : ∃ g r, sp ver (Bs.take T) = (g, r, 0) ∧ ∃ z, fs = g ++ z := by
  have h1 := sp_app ver (Bs.take T) (Bs.drop T)
  rw [List.take_append_drop, h] at h1
  obtain ⟨g, r, e, h2⟩ : ∃ g r e, sp ver (Bs.take T) = (g, r, e) := ⟨_, _, _, rfl⟩
  rw [h2] at h1 ⊢
  unfold spMore at h1
  by_cases he : e = 0
  · subst he
    simp only [if_true, Prod.mk.injEq] at h1
    exact ⟨g, r, rfl, _, h1.1⟩
  · simp only [he, if_false, Prod.mk.injEq] at h1
    exact absurd h1.2.2.symm he
theorem sp_step {ver : Int} {Bs r : List UInt8} {fs : List Fr} {t m T : Nat} (h : sp ver Bs = (fs, [], 0)) (ht : sp ver (Bs.take t) = (fs.take m, r, 0)) (hm : m ≤ fs.length) (htT : t ≤ T) :
    ∃ g r2, sp ver (r ++ (Bs.drop t).take (T - t)) = (g, r2, 0) ∧ m + g.length ≤ fs.length ∧ sp ver (Bs.take T) = (fs.take (m + g.length), r2, 0) ∧ ∀ j (hj : j < g.length), fs[m + j]? = some g[j] := by
  obtain ⟨a, r2, h2, z, hz⟩ := sp_prefix h T
  have h3 : Bs.take T = Bs.take t ++ (Bs.drop t).take (T - t) := by
    have := List.take_add (l := Bs) (i := t) (j := T - t)
    rwa [show t + (T - t) = T by omega] at this
  have h4 := h2
  rw [h3, sp_app, ht] at h4
  unfold spMore at h4
  obtain ⟨g, r3, e, h5⟩ : ∃ g r3 e, sp ver (r ++ (Bs.drop t).take (T - t)) = (g, r3, e) := ⟨_, _, _, rfl⟩
  rw [h5] at h4
  simp only [if_true, Prod.mk.injEq] at h4
  obtain ⟨h6, rfl, rfl⟩ := h4
  have hlm : (fs.take m).length = m := by rw [List.length_take]; omega
  have hal : a.length = m + g.length := by rw [← h6, List.length_append, hlm]
  have hfl : m + g.length ≤ fs.length := by rw [hz, List.length_append, hal]; omega
  have hta : fs.take (m + g.length) = a := by rw [← hal, hz, List.take_left]
  refine ⟨g, r3, h5, hfl, by rw [h2, hta], fun j hj => ?_⟩
  rw [hz, List.getElem?_append_left (by omega), ← h6, List.getElem?_append_right (by omega), hlm, show m + j - m = j by omega, List.getElem?_eq_getElem hj]
theorem FrsIn.nth {w : World} {base : Nat} : ∀ {fs : List Fr} {xs : List Value}, FrsIn w base fs xs → ∀ j (h : j < fs.length), ∃ A c, xs[j * 6 + 2]? = some (.int .i16 fs[j].S) ∧ xs[j * 6 + 5]? = some (.slice A fs[j].body.length c) ∧ SW w A fs[j].body.length c fs[j].body
  | [], _, _, j, h => absurd h (by simp)
  | f :: fs, xs, ⟨A, c, ys, e, h1, h2⟩, 0, _ => by
    obtain ⟨A', c', e', hsw⟩ := SW.of_own h1
    injection e' with e1 _ e3
    subst e1
    subst e3
    subst e
    exact ⟨A, c, rfl, rfl, hsw⟩
  | f :: fs, xs, ⟨A, c, ys, e, h1, h2⟩, j + 1, h => by
    obtain ⟨A', c', e1, e2, e3⟩ := FrsIn.nth h2 j (by simpa using h)
    subst e
    refine ⟨A', c', ?_, ?_, e3⟩
    · rw [List.getElem?_append_right (by simp [frCells]; omega)]
      rw [show (j + 1) * 6 + 2 - (frCells f A c).length = j * 6 + 2 by simp [frCells]; omega]
      exact e1
    · rw [List.getElem?_append_right (by simp [frCells]; omega)]
      rw [show (j + 1) * 6 + 5 - (frCells f A c).length = j * 6 + 5 by simp [frCells]; omega]
      exact e2
theorem frs_nth {w : World} {base : Nat} {A : Option Addr} {n c : Nat} {fs : List Fr} {xs : List Value} (h : Frs w base (.slice A n c) fs xs) (j : Nat) (hj : j < fs.length) : ∃ g A' c', A = some ⟨g, 0, none⟩ ∧ w.cell? ⟨g, j * 6 + 2, none⟩ = some (.int .i16 fs[j].S) ∧ w.cell? ⟨g, j * 6 + 5, none⟩ = some (.slice A' fs[j].body.length c') ∧ SW w A' fs[j].body.length c' fs[j].body := by
  obtain ⟨A', c', e1, e2, e3⟩ := h.cells.nth j hj
  have hr := h.row
  rcases hr.2 with ⟨_, hn⟩ | ⟨g, cap, cur, hv, _, hk, hc, hm, hs, ht⟩
  · omega
  · injection hv with h1 h2 h3
    subst h1
    subst h2
    subst h3
    refine ⟨g, A', c', rfl, ?_, ?_, e3⟩
    · have := hr.cellAt (j * 6 + 2) (by omega)
      rw [this, e1]
    · have := hr.cellAt (j * 6 + 5) (by omega)
      rw [this, e2]
theorem chk_4 (O : Int) (hO : hasB (opsOf 4) O = true) (n : Nat) (h : n ≤ 1048576) : chk 4 0 O n = 0 := by
  unfold chk
  rw [if_neg (by omega), if_neg (by decide), if_neg (by rw [hO]; decide), if_neg (by omega)]
end Go.Proofs.Ytiehhoonfneccaa
