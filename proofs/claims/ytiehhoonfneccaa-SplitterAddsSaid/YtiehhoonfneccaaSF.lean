/- A frame that lacks its last bytes: the plain law. No condition but that the numbers are of their kinds. -/
import Derived.Test.YtiehhoonfneccaaSE
namespace Go.Proofs.Ytiehhoonfneccaa
open Go.RowKit
theorem spl_cut {V F S O : Int} {l : List UInt8} (hV0 : 0 ≤ V) (hV1 : V < 256) (hF0 : 0 ≤ F) (hF1 : F < 256) (hS0 : -32768 ≤ S) (hS1 : S < 32768) (hO0 : 0 ≤ O) (hO1 : O < 256) (hn : l.length ≤ 1048576) (h : chk V F O l.length = 0) (k j : Nat) (hk : k < 9 + l.length) (hj : k < j) :
    spl V j ((putH V F S O l.length ++ l).take k) = ([], (putH V F S O l.length ++ l).take k, 0) := by
  have hp := putH_len V F S O l.length
  have hlen : ((putH V F S O l.length ++ l).take k).length = k := by rw [List.length_take, List.length_append, hp]; omega
  by_cases h9 : k < 9
  · exact spl_stop_short _ _ _ (by rw [hlen]; exact h9)
  · have hL0 : (0 : Int) ≤ (l.length : Int) := by omega
    have hL1 : (l.length : Int) < 4294967296 := by omega
    have ht : (putH V F S O l.length ++ l).take k = putH V F S O l.length ++ l.take (k - 9) := by
      rw [List.take_append, List.take_of_length_le (by rw [hp]; omega), hp]
    obtain ⟨b0, b1, b2, b4, b5⟩ := put_bytes hV0 hV1 hF0 hF1 hS0 hS1 hO0 hO1 hL0 hL1 (l.take (k - 9))
    obtain ⟨hE, _⟩ := put_get hV0 hV1 hF0 hF1 hS0 hS1 hO0 hO1 hL0 hL1 (l.take (k - 9)) h
    rw [← ht] at b0 b5 hE
    exact spl_wait V j _ (by rw [hlen]; exact hj) (by rw [hlen]; exact h9) (by unfold erOf; rw [if_neg (fun z => z.2 b0), hE]) (by rw [hlen, b5, Int.toNat_natCast]; exact hk)
theorem spl_rest {V F S O : Int} {l more : List UInt8} (hV0 : 0 ≤ V) (hV1 : V < 256) (hF0 : 0 ≤ F) (hF1 : F < 256) (hS0 : -32768 ≤ S) (hS1 : S < 32768) (hO0 : 0 ≤ O) (hO1 : O < 256) (hn : l.length ≤ 1048576) (h : chk V F O l.length = 0) (k j : Nat) (hm : more.length < 9) :
    spl V (j + 1) ((putH V F S O l.length ++ l).take k ++ ((putH V F S O l.length ++ l).drop k ++ more)) = ([⟨V, F, S, O, l.length, l⟩], more, 0) := by
  rw [← List.append_assoc, List.take_append_drop, spl_put hV0 hV1 hF0 hF1 hS0 hS1 hO0 hO1 hn h, spl_stop_short V j more hm]
end Go.Proofs.Ytiehhoonfneccaa
