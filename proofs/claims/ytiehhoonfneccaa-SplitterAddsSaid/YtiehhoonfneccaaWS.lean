/- Byte slices below all that a world holds: rules by which a search keeps them. Joining four. Where all bytes take at most 2^47. -/
import Derived.Test.YtiehhoonfneccaaCT
namespace Go.Proofs.Ytiehhoonfneccaa
open Go.RowKit
/-- The slice reads as l, somewhere in the world. -/
def SW (w : World) (A : Option Addr) (n c : Nat) (l : List UInt8) : Prop := BS w w.heap.size A n c l
section
variable {w w' : World} {n c : Nat} {A : Option Addr} {l : List UInt8}
theorem SW.alloc (h : SW w A n c l) (o : Obj) : SW (w.alloc o) A n c l := (BS.alloc h (Nat.le_refl _) o).more (by simp)
theorem SW.drew (h : SW w A n c l) : SW w.drew A n c l := BS.drew h
theorem SW.drewN (h : SW w A n c l) (k : Nat) : SW (w.drewN k) A n c l := BS.drewN h k
theorem SW.then_ (h : SW w A n c l) (hb : Below w.heap.size w w') : SW w' A n c l := (BS.below h hb).more hb.size
theorem SW.nil (w : World) : SW w none 0 0 [] := BS.none_ _ _
theorem SW.lit (w : World) (t : TypeId) (b : Nat) (cs : Array Value) (l : List UInt8) (hb : b = w.heap.size) (h : cs = (bv l).toArray) (n : Nat) (hn : n = l.length) (hm : l.length ≤ maxLen) : SW (w.alloc (.cells cs t)) (some ⟨b, 0, none⟩) n n l := by
  subst hb
  have := BS.lit w t l cs h n hn hm
  unfold SW
  simpa using this
theorem byteI {v : Int} (h0 : 0 ≤ v) (h1 : v < 256) : ((UInt8.ofNat v.toNat).toNat : Int) = v := by
  simp only [UInt8.toNat_ofNat']
  omega
theorem SW.lit1 (w : World) (t : TypeId) (b : Nat) (u : Int) (hb : b = w.heap.size) (h0 : 0 ≤ u) (h1 : u < 256) : SW (w.alloc (.cells #[.int .u8 u] t)) (some ⟨b, 0, none⟩) 1 1 [UInt8.ofNat u.toNat] :=
  SW.lit w t b _ _ hb (by simp only [bv, List.map_cons, List.map_nil, byteI h0 h1]) 1 rfl (by simp [maxLen])
theorem SW.lit2 (w : World) (t : TypeId) (b : Nat) (u v : Int) (hb : b = w.heap.size) (h0 : 0 ≤ u) (h1 : u < 256) (h2 : 0 ≤ v) (h3 : v < 256) : SW (w.alloc (.cells #[.int .u8 u, .int .u8 v] t)) (some ⟨b, 0, none⟩) 2 2 [UInt8.ofNat u.toNat, UInt8.ofNat v.toNat] :=
  SW.lit w t b _ _ hb (by simp only [bv, List.map_cons, List.map_nil, byteI h0 h1, byteI h2 h3]) 2 rfl (by simp [maxLen])
theorem SW.of_own {base : Nat} {e : TypeId} {v : Value} (h : w.ownsRow base e 1 v n (bv l)) : ∃ A c, v = .slice A n c ∧ SW w A n c l := BS.of_own h
end
set_option maxHeartbeats 400000 in
theorem concat4 (w : World) {A1 A2 A3 A4 : Option Addr} {n1 n2 n3 n4 c1 c2 c3 c4 : Nat} {l1 l2 l3 l4 : List UInt8} (t : TypeId) (b : Nat) (hb : b = w.heap.size) (h1 : SW w A1 n1 c1 l1) (h2 : SW w A2 n2 c2 l2) (h3 : SW w A3 n3 c3 l3) (h4 : SW w A4 n4 c4 l4)
    (hs : n1 + n2 + n3 + n4 ≤ 140737488355328) :
    Calls Try.prog 32 #[.slice (some ⟨b, 0, none⟩) 4 4] (w.alloc (.cells #[.slice A1 n1 c1, .slice A2 n2 c2, .slice A3 n3 c3, .slice A4 n4 c4] t)) fun e w' =>
      ∃ v, e = .returned v ∧ w'.ownsRow w.heap.size 5 1 v (n1 + n2 + n3 + n4) (bv (l1 ++ (l2 ++ (l3 ++ l4)))) ∧ Below w.heap.size w w' := by
  subst hb
  let ps : List Part := [⟨A1, n1, c1, l1⟩, ⟨A2, n2, c2, l2⟩, ⟨A3, n3, c3, l3⟩, ⟨A4, n4, c4, l4⟩]
  have hp : Parts (w.alloc (.cells #[.slice A1 n1 c1, .slice A2 n2 c2, .slice A3 n3 c3, .slice A4 n4 c4] t)) (w.alloc (.cells #[.slice A1 n1 c1, .slice A2 n2 c2, .slice A3 n3 c3, .slice A4 n4 c4] t)).heap.size w.heap.size ps := by
    refine ⟨fun i hi => ?_, fun i hi => ?_⟩
    · rw [(Row.new w t _).cell]
      match i, hi with
      | 0, _ => rfl
      | 1, _ => rfl
      | 2, _ => rfl
      | 3, _ => rfl
    · match i, hi with
      | 0, _ => exact h1.alloc _
      | 1, _ => exact h2.alloc _
      | 2, _ => exact h3.alloc _
      | 3, _ => exact h4.alloc _
  have hN : catN ps = n1 + n2 + n3 + n4 := by simp [ps, catN]; omega
  have hL : catL ps = l1 ++ (l2 ++ (l3 ++ l4)) := by simp [ps, catL]
  refine (concat_any _ w.heap.size ps 4 4 rfl hp (by simp) (Nat.le_refl _) (by decide) (by omega)).mono ?_
  rintro e w' ⟨v, rfl, hown, hb⟩
  rw [hN, hL] at hown
  exact ⟨v, rfl, owns_mono hown (by simp), below_then (below_new (Below.refl _ _) _) hb⟩
end Go.Proofs.Ytiehhoonfneccaa
