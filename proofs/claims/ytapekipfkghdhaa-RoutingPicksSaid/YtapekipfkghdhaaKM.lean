/- The parts of a key are its parts: the plain law. No condition but that no part is longer than 65535. -/
import Derived.Test.YtapekipfkghdhaaKL
namespace Go.Proofs.Ytapekipfkghdhaa
open Go.RowKit
theorem getV_two (n : Nat) (h : n ≤ 65535) : getV (putB (n : Int) 2) = n := by
  rw [show putB (n : Int) 2 = [dg n 1, dg n 0] from rfl]
  simp only [getV, List.foldl_cons, List.foldl_nil, dg_val, dig]
  omega
theorem prt_key (l rest : List UInt8) (h : l.length ≤ 65535) (j : Nat) : prt (j + 1) (putB (l.length : Int) 2 ++ (l ++ [0]) ++ rest) = comb [l] (prt j rest) := by
  have hp : (putB (l.length : Int) 2).length = 2 := putB_len _ _
  have hlen : (putB (l.length : Int) 2 ++ (l ++ [0]) ++ rest).length = 2 + (l.length + 1) + rest.length := by
    rw [List.length_append, List.length_append, List.length_append, hp]
    rfl
  have ht : (putB (l.length : Int) 2 ++ (l ++ [0]) ++ rest).take 2 = putB (l.length : Int) 2 := by
    rw [List.append_assoc]
    have := List.take_left (l₁ := putB (l.length : Int) 2) (l₂ := l ++ [0] ++ rest)
    rwa [hp] at this
  have hd : (putB (l.length : Int) 2 ++ (l ++ [0]) ++ rest).drop 2 = l ++ ([0] ++ rest) := by
    rw [List.append_assoc, List.append_assoc]
    have := List.drop_left (l₁ := putB (l.length : Int) 2) (l₂ := l ++ ([0] ++ rest))
    rwa [hp] at this
  rw [prt_more j _ l.length (by omega) (by rw [ht, getV_two _ h]) (by omega) (by rw [hd, List.getD, List.getElem?_append_right (Nat.le_refl _)]; simp), hd, List.take_left]
  have : (l ++ ([0] ++ rest)).drop (l.length + 1) = rest := by
    rw [← List.drop_drop, List.drop_left]
    rfl
  rw [this]
theorem prt_keyL {ps : List Part} : (∀ p ∈ ps, p.l.length = p.n ∧ p.n ≤ 65535) → ∀ k, ps.length < k → prt k (keyL ps) = (ps.map (·.l), 0) := by
  induction ps with
  | nil =>
    intro _ k hk
    exact prt_none k _ (by omega) rfl
  | cons p ps ih =>
    intro h k hk
    obtain ⟨j, rfl⟩ : ∃ j, k = j + 1 := ⟨k - 1, by omega⟩
    obtain ⟨h1, h2⟩ := h p List.mem_cons_self
    have e : keyL (p :: ps) = putB (p.l.length : Int) 2 ++ (p.l ++ [0]) ++ keyL ps := by
      unfold keyL
      rw [List.flatMap_cons, h1]
    rw [e, prt_key _ _ (by omega), ih (fun q hq => h q (List.mem_cons_of_mem _ hq)) j (by simp at hk; omega)]
    unfold comb
    rw [if_pos rfl]
    rfl
theorem keyL_ge (ps : List Part) : ps.length ≤ (keyL ps).length := by
  induction ps with
  | nil => exact Nat.le_refl _
  | cons p ps ih =>
    unfold keyL at ih ⊢
    rw [List.flatMap_cons, List.length_append, List.length_append, List.length_append]
    simp only [List.length_cons, List.length_nil]
    omega
theorem prt_back {ps : List Part} (h : ∀ p ∈ ps, p.l.length = p.n ∧ p.n ≤ 65535) {N : Nat} (hN : (keyL ps).length = N) : prt (N + 1) (keyL ps) = (ps.map (·.l), 0) :=
  prt_keyL h _ (by have := keyL_ge ps; omega)
theorem keyL_inj {ps qs : List Part} (h : ∀ p ∈ ps, p.l.length = p.n ∧ p.n ≤ 65535) (h2 : ∀ p ∈ qs, p.l.length = p.n ∧ p.n ≤ 65535) : keyL ps = keyL qs ↔ ps.map (·.l) = qs.map (·.l) := by
  constructor
  · intro e
    have h3 := prt_back h rfl
    have h4 := prt_back h2 rfl
    rw [e] at h3
    rw [h3] at h4
    exact congrArg Prod.fst h4
  · intro e
    have h3 : ∀ {xs : List Part}, (∀ p ∈ xs, p.l.length = p.n ∧ p.n ≤ 65535) → keyL xs = (xs.map (·.l)).flatMap fun l => putB (l.length : Int) 2 ++ (l ++ [0]) := by
      intro xs hx
      unfold keyL
      rw [List.flatMap_map, List.flatMap_def, List.flatMap_def, List.map_congr_left fun p hm => by rw [← (hx p hm).1]]
    rw [h3 h, h3 h2, e]
end Go.Proofs.Ytapekipfkghdhaa
