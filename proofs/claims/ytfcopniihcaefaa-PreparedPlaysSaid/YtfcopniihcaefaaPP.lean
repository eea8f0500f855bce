/- prepared: the plain laws of PreparedDrops and PreparedBounds. No condition. -/
import Derived.Test.YtfcopniihcaefaaPO
namespace Go.Proofs.Ytfcopniihcaefaa
open Go.RowKit
/-- No text and no number is there twice. -/
def UQ (L : List KE) : Prop := L.Pairwise fun a b => a.1 ≠ b.1 ∧ a.2.1 ≠ b.2.1
theorem UQ.put {L : List KE} (h : UQ L) (m : Nat) (x : KE) : UQ (putK m x L) := by
  unfold putK UQ
  refine List.Pairwise.sublist (List.take_sublist _ _) (List.pairwise_cons.2 ⟨fun y hy => ?_, h.sublist List.filter_sublist⟩)
  have := (List.mem_filter.1 hy).2
  simp at this
  exact ⟨fun e => this.1 e.symm, fun e => this.2 e.symm⟩
theorem erase_idx_of {L : List KE} {k : Nat} (h : UQ L) : UQ (L.eraseIdx k) := h.sublist (List.eraseIdx_sublist ..)
theorem UQ.drop {L : List KE} (h : UQ L) (i : List UInt8) : UQ (dropK i L) := erase_idx_of h
theorem drop_filter : ∀ {L : List KE} (_ : UQ L) (i : List UInt8), dropK i L = L.filter fun y => !(y.2.1 == i)
  | [], _, i => rfl
  | a :: r, h, i => by
    have hr := drop_filter (List.pairwise_cons.1 h).2 i
    unfold dropK at hr ⊢
    cases hai : (a.2.1 == i) with
    | true =>
      have he : a.2.1 = i := by simpa using hai
      rw [List.findIdx_cons, hai]
      simp only [cond_true, List.eraseIdx_cons_zero]
      rw [List.filter_cons_of_neg (by simp [hai]), List.filter_eq_self.2]
      intro y hy
      have := ((List.pairwise_cons.1 h).1 y hy).2
      rw [he] at this
      simpa using fun e => this e.symm
    | false =>
      rw [List.findIdx_cons, hai]
      simp only [cond_false, List.eraseIdx_cons_succ]
      rw [hr, List.filter_cons_of_pos (by simp [hai])]
theorem filt_at {L : List KE} (f : KE → Bool) (b : Nat) (hb : b < L.length) (hf : f L[b] = true) : (L.filter f)[((L.take b).filter f).length]? = some L[b] := by
  have hs : L = L.take b ++ L[b] :: L.drop (b + 1) := by rw [← List.drop_eq_getElem_cons hb, List.take_append_drop]
  have : L.filter f = (L.take b).filter f ++ L[b] :: (L.drop (b + 1)).filter f := by
    conv => lhs; rw [hs, List.filter_append, List.filter_cons_of_pos hf]
  rw [this, List.getElem?_append_right (Nat.le_refl _), Nat.sub_self]
  rfl
theorem filt_step {L : List KE} (f : KE → Bool) (b : Nat) (hb : b < L.length) : ((L.take (b + 1)).filter f).length = ((L.take b).filter f).length + (if f L[b] then 1 else 0) := by
  rw [List.take_succ_eq_append_getElem hb, List.filter_append, List.length_append]
  cases hf : f L[b] <;> simp [hf]
theorem filt_le {L : List KE} (f : KE → Bool) (b : Nat) : ((L.take b).filter f).length ≤ L.length :=
  Nat.le_trans (List.length_filter_le _ _) (by rw [List.length_take]; omega)
/-- The row once the first k were put in. -/
def rowP (m : Nat) (es : List En) (k : Nat) : List KE := (es.take k).foldl (fun L e => putK m e.k L) []
theorem rowP_succ (m : Nat) (es : List En) (k : Nat) (hk : k < es.length) : rowP m es (k + 1) = putK m (es[k].t, es[k].i, es[k].ks) (rowP m es k) := by
  unfold rowP
  rw [List.take_succ_eq_append_getElem hk, List.foldl_append]
  rfl
theorem putK_len (m : Nat) (x : KE) (L : List KE) : (putK m x L).length ≤ m := by
  unfold putK
  rw [List.length_take]
  omega
theorem rowP_len (m : Nat) (es : List En) : ∀ k, k ≤ es.length → (rowP m es k).length ≤ m
  | 0, _ => Nat.zero_le _
  | k + 1, h => by rw [rowP_succ m es k h]; exact putK_len _ _ _
theorem rowP_uq (m : Nat) (es : List En) : ∀ k, k ≤ es.length → UQ (rowP m es k)
  | 0, _ => List.Pairwise.nil
  | k + 1, h => by rw [rowP_succ m es k h]; exact (rowP_uq m es k (by omega)).put _ _
theorem putK_cons {m : Nat} (hm : 0 < m) (x : KE) (L : List KE) : ∃ R, putK m x L = x :: R ∧ ∀ y ∈ R, y.1 ≠ x.1 ∧ y.2.1 ≠ x.2.1 := by
  obtain ⟨q, rfl⟩ : ∃ q, m = q + 1 := ⟨m - 1, by omega⟩
  refine ⟨(L.filter fun y => !(y.1 == x.1 || y.2.1 == x.2.1)).take q, rfl, fun y hy => ?_⟩
  have := (List.mem_filter.1 (List.mem_of_mem_take hy)).2
  simpa using this
theorem GotK.form {w' : World} {base : Nat} {o : Option KE} {r : Ending} (h : GotK w' base o r) : ∃ s0 s1 A n c, r = .returned (.tuple #[.agg #[.string s0, .string s1, .slice A n c], .bool o.isSome]) := by
  cases o with
  | none => exact ⟨_, _, _, _, _, h⟩
  | some e =>
    obtain ⟨A', c', h1, _⟩ := h
    exact ⟨_, _, _, _, _, h1⟩
theorem EL.below' {w w' : World} {base B : Nat} {v : Value} {es : List En} (h : EL w base v es) (hb : Below B w w') (hB : w.heap.size ≤ B) : EL w' base v es := own_below h (hb.mono hB)
/-- A row that a call made is kept by what the cache's operations do. -/
theorem EL.kw {w w' : World} {base p : Nat} {v v2 u : Value} {es : List En} (h : EL w base u es) (hk : Kw w w' p v v2) (hf : ∀ g, u.ownBlock = some g → Far w p v g) : EL w' base u es := by
  refine ⟨h.1, ?_⟩
  rcases h.2 with h1 | ⟨k, cap, cur, hv, hb, hkk, hr⟩
  · exact .inl h1
  · exact .inr ⟨k, cap, cur, hv, hb, (hk.keep k (hf k (by rw [hv]; rfl))).2.trans hkk, hr⟩
end Go.Proofs.Ytfcopniihcaefaa
