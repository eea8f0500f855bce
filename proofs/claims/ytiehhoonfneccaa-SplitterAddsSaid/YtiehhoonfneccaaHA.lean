/- What a header may be, in plain numbers; slices.Index, slices.Contains of bytes; header.of. No condition. -/
import Derived.Test.YtiehhoonfneccaaOC
import Derived.Handy
namespace Go.Proofs.Ytiehhoonfneccaa
open Go.RowKit
/-- Is a byte among these? -/
def hasB (l : List UInt8) (o : Int) : Bool := l.any fun b => decide ((b.toNat : Int) = o)
theorem hasB_snoc (l : List UInt8) (b : UInt8) (o : Int) : hasB (l ++ [b]) o = (hasB l o || decide ((b.toNat : Int) = o)) := by simp [hasB]
theorem hasB_take (l : List UInt8) (k : Nat) (h : k < l.length) (o : Int) : hasB (l.take (k + 1)) o = (hasB (l.take k) o || decide ((l[k].toNat : Int) = o)) := by
  rw [take_snoc l k h, hasB_snoc]
theorem hasB_of {l : List UInt8} {k : Nat} {h : k < l.length} {o : Int} (e : (l[k].toNat : Int) = o) : hasB l o = true := by
  simp only [hasB, List.any_eq_true, decide_eq_true_eq]
  exact ⟨l[k], List.getElem_mem h, e⟩
theorem index_any {B : Nat} {A : Option Addr} {n c : Nat} {l : List UInt8} (w : World) (hl : BS w B A n c l) (o : Int) :
    Calls Try.prog 41 #[.slice A n c, .int .u8 o] w fun e w' => (∃ r, e = .returned (.int .i64 r) ∧ decide (0 ≤ r) = hasB l o) ∧ w = w' := by
  have hcap := hl.cap
  have hlen := hl.len
  have hmx := hl.max
  unfold maxLen at hmx
  go_enter Try.func41, Try.ntmps41
  go_wp2_with fail
  go_loop [8] (fun i => ∃ k : Nat, k ≤ n ∧ i = .int .i64 k ∧ hasB (l.take k) o = false) (fun i => n - (intOf i).toNat)
  case atStart => exact ⟨0, Nat.zero_le _, rfl, rfl⟩
  case round =>
    obtain ⟨k, hk, rfl, hno⟩ := hrel
    by_cases hlt : k < n
    · obtain ⟨b, o', rfl, hbB, hkl, hck⟩ := hl.byte hlt
      by_cases he : (l[k].toNat : Int) = o
      · have hy := Lib.hid (hasB_of (h := hkl) he)
        subst he
        go_wp2_with fail
        go_ret
        exact ⟨⟨_, rfl, by rw [hy.out]; simp⟩, rfl⟩
      · have hn2 := hasB_take l k hkl o
        rw [hno] at hn2
        have HN := Lib.hid hn2
        clear hn2 hno
        have he' : ¬ o = (l[k].toNat : Int) := fun e => he e.symm
        go_wp2_with fail
        exact ⟨⟨k + 1, by omega, by go_num, by rw [HN.out]; simp [he]⟩, by simp [intOf]; omega⟩
    · obtain rfl : k = n := by omega
      rw [List.take_of_length_le (by omega)] at hno
      have HN := Lib.hid hno
      clear hno
      go_wp2_with fail
      go_ret
      exact ⟨⟨_, rfl, by rw [HN.out]; simp⟩, rfl⟩
theorem contains_any {B : Nat} {A : Option Addr} {n c : Nat} {l : List UInt8} (w : World) (hl : BS w B A n c l) (o : Int) :
    Calls Try.prog 35 #[.slice A n c, .int .u8 o] w fun e w' => e = .returned (.bool (hasB l o)) ∧ w = w' := by
  go_enter Try.func35, Try.ntmps35
  go_wp2_with fail
  refine (index_any _ hl o).mono ?_
  rintro e w' ⟨⟨r, rfl, hr⟩, rfl⟩
  have HR := Lib.hid hr
  clear hr
  go_wp2_with fail
  go_ret
  exact ⟨ret_bool (by rw [← HR.out]), rfl⟩
/-- The flags and the opcodes that frames of a direction may have. -/
def flagsOf (V : Int) : Int := if V = 4 then 6 else if V = 132 then 14 else 0
def opsOf (V : Int) : List UInt8 := if V = 4 then [1, 5, 7, 9, 10, 11, 13, 15] else if V = 132 then [0, 2, 3, 6, 8, 12, 14, 16] else []
theorem of_yes {w : World} {l : List UInt8} (cs : Array Value) (o : Obj) (h : cs = (bv l).toArray) (n : Nat) (hn : n = l.length) (hm : l.length ≤ maxLen) :
    BS ((w.alloc o).alloc (.cells cs 5)) ((w.alloc o).alloc (.cells cs 5)).heap.size (some ⟨w.heap.size + 1, 0, none⟩) n n l ∧ Below w.heap.size w ((w.alloc o).alloc (.cells cs 5)) := by
  have := BS.lit (w.alloc o) 5 l cs h n hn hm
  exact ⟨by simpa using this, below_new (below_new (Below.refl _ _) _) _⟩
theorem of_4 (w : World) : Calls Try.prog 34 #[.int .u8 4] w fun e w' => ∃ A c, e = .returned (.tuple #[.agg #[.int .u8 6, .slice A 8 c], .bool true]) ∧ BS w' w'.heap.size A 8 c (opsOf 4) ∧ Below w.heap.size w w' := by
  go_enter Try.func34, Try.ntmps34
  go_wp2_with fail
  go_returns
  refine ⟨_, _, rfl, ?_⟩
  refine of_yes _ _ ?_ 8 ?_ ?_ <;> first | rfl | decide
theorem of_132 (w : World) : Calls Try.prog 34 #[.int .u8 132] w fun e w' => ∃ A c, e = .returned (.tuple #[.agg #[.int .u8 14, .slice A 8 c], .bool true]) ∧ BS w' w'.heap.size A 8 c (opsOf 132) ∧ Below w.heap.size w w' := by
  go_enter Try.func34, Try.ntmps34
  go_wp2_with fail
  go_returns
  refine ⟨_, _, rfl, ?_⟩
  refine of_yes _ _ ?_ 8 ?_ ?_ <;> first | rfl | decide
theorem of_no (V : Int) (w : World) (h4 : ¬ V = 4) (h132 : ¬ V = 132) : Calls Try.prog 34 #[.int .u8 V] w fun e w' => e = .returned (.tuple #[.agg #[.int .u8 0, .slice none 0 0], .bool false]) ∧ Below w.heap.size w w' := by
  go_enter Try.func34, Try.ntmps34
  go_wp2_with fail
  go_returns
  exact ⟨rfl, below_new (Below.refl _ _) _⟩
end Go.Proofs.Ytiehhoonfneccaa
