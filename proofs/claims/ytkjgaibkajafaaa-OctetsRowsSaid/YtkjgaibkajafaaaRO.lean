/- OctetsRows: the plain facts, and what is told of a slice of numbers. No condition. -/
import Derived.Test.YtkjgaibkajafaaaSG
namespace Go.Proofs.Ytkjgaibkajafaaa
open Go.RowKit
/-- Numbers one behind the other, each in k bytes. -/
def cat (k : Nat) (zs : List Int) : List UInt8 := zs.flatMap fun z => putB z k
theorem cat_len (k : Nat) (zs : List Int) : (cat k zs).length = zs.length * k := by
  induction zs with
  | nil => simp [cat]
  | cons z zs ih =>
    have : cat k (z :: zs) = putB z k ++ cat k zs := rfl
    rw [this, List.length_append, putB_len, ih, List.length_cons, Nat.add_mul]; omega
theorem cat_snoc (k : Nat) (zs : List Int) (t : Nat) (h : t < zs.length) : cat k (zs.take (t + 1)) = cat k (zs.take t) ++ putB zs[t] k := by
  unfold cat
  rw [List.take_succ_eq_append_getElem h, List.flatMap_append]
  show _ ++ (putB zs[t] k ++ []) = _
  rw [List.append_nil]
theorem cat_head (k : Nat) (zs : List Int) (t : Nat) (h : t < zs.length) : cat k (zs.drop t) = putB zs[t] k ++ cat k (zs.drop (t + 1)) := by
  rw [List.drop_eq_getElem_cons h]
  rfl
theorem owns_below {w w' : World} {base : Nat} {e : TypeId} {size n : Nat} {v : Value} {xs : List Value} (h : w.ownsRow base e size v n xs) (hb : Below w.heap.size w w') : w'.ownsRow base e size v n xs := by
  obtain ⟨h1, h2⟩ := h
  refine ⟨h1, ?_⟩
  rcases h2 with h2 | ⟨g, cap, cur, hv, hg, hh, hr⟩
  · exact .inl h2
  · exact .inr ⟨g, cap, cur, hv, hg, (hb.block g (Array.getElem?_eq_some_iff.1 hh).1).trans hh, hr⟩
/-- A slice of numbers of 64 bits that reads as zs. -/
structure NS (w : World) (B : Nat) (A : Option Addr) (n : Nat) (zs : List Int) : Prop where
  len : zs.length = n
  fit : ∀ z ∈ zs, 0 ≤ z ∧ z < 18446744073709551616
  at_ : 0 < n → ∃ b o, A = some ⟨b, o, none⟩ ∧ b < B ∧ ∀ i (h : i < zs.length), w.cell? ⟨b, o + i, none⟩ = some (.int .u64 zs[i])
theorem NS.below {w w' : World} {B n : Nat} {A : Option Addr} {zs : List Int} (h : NS w B A n zs) (hb : Below B w w') : NS w' B A n zs :=
  ⟨h.len, h.fit, fun hn => by
    obtain ⟨b, o, e, hbB, hc⟩ := h.at_ hn
    exact ⟨b, o, e, hbB, fun i hi => (hb.cell (p := ⟨b, o + i, none⟩) hbB).trans (hc i hi)⟩⟩
end Go.Proofs.Ytkjgaibkajafaaa
