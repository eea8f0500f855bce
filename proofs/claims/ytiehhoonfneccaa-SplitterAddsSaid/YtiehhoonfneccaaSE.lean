/- Frames that were joined come out: the plain law; what is kept while other memory is written. No condition but that the numbers are of their kinds. -/
import Derived.Test.YtiehhoonfneccaaSD
namespace Go.Proofs.Ytiehhoonfneccaa
open Go.RowKit
theorem spl_put {V F S O : Int} {l more : List UInt8} (hV0 : 0 ≤ V) (hV1 : V < 256) (hF0 : 0 ≤ F) (hF1 : F < 256) (hS0 : -32768 ≤ S) (hS1 : S < 32768) (hO0 : 0 ≤ O) (hO1 : O < 256) (hn : l.length ≤ 1048576) (h : chk V F O l.length = 0) (k : Nat) :
    spl V (k + 1) ((putH V F S O l.length ++ l) ++ more) = (⟨V, F, S, O, l.length, l⟩ :: (spl V k more).1, (spl V k more).2) := by
  rw [List.append_assoc]
  have hL0 : (0 : Int) ≤ (l.length : Int) := by omega
  have hL1 : (l.length : Int) < 4294967296 := by omega
  obtain ⟨b0, b1, b2, b4, b5⟩ := put_bytes hV0 hV1 hF0 hF1 hS0 hS1 hO0 hO1 hL0 hL1 (l ++ more)
  obtain ⟨hE, _⟩ := put_get hV0 hV1 hF0 hF1 hS0 hS1 hO0 hO1 hL0 hL1 (l ++ more) h
  have hp := putH_len V F S O l.length
  have hz : (hL (putH V F S O l.length ++ (l ++ more))).toNat = l.length := by rw [b5]; rfl
  have hd : (putH V F S O l.length ++ (l ++ more)).drop 9 = l ++ more := by rw [← hp, List.drop_left]
  rw [spl_one V k _ (by rw [List.length_append, hp]; omega) (by unfold erOf; rw [if_neg (fun z => z.2 b0), hE]) (by rw [hz, List.length_append, List.length_append, hp]; omega)]
  have hf : frOf (putH V F S O l.length ++ (l ++ more)) = ⟨V, F, S, O, l.length, l⟩ := by
    unfold frOf
    rw [b0, b1, b2, b4, hz, b5, hd, List.take_left]
  rw [hf, hz, ← List.drop_drop, hd, List.drop_left]
theorem chk_132 (O : Int) (hO : hasB (opsOf 132) O = true) (n : Nat) (h : n ≤ 1048576) : chk 132 0 O n = 0 := by
  unfold chk
  rw [if_neg (by omega), if_neg (by decide), if_neg (by rw [hO]; decide), if_neg (by omega)]
theorem BT.set_ {w : World} {A : Option Addr} (h : BT w A) (q : Addr) (u : Value) : BT (w.setCell q u) A := by
  intro a ha
  obtain ⟨cs, f, hc⟩ := h a ha
  by_cases e : a.block = q.block
  · refine ⟨if q.spot.isSome then cs else cs.setIfInBounds q.off u, f, ?_⟩
    simp only [World.setCell, Array.getElem?_modify]
    rw [if_pos e.symm, hc]
    cases hs : q.spot <;> simp
  · exact ⟨cs, f, (Below.heap_setCell w q u a.block e).trans hc⟩
theorem Spl.far {w : World} {p g i : Nat} {ver e : Int} {A : Option Addr} {c : Nat} {u : Value} (h : Spl w p ver [] e A c) (hg : p ≠ g) : Spl (w.setCell ⟨g, i, none⟩ u) p ver [] e A c :=
  ⟨h.row.far hg u, ⟨rfl, Nat.zero_le _, BS.max h.bs, BS.nil h.bs, fun x => absurd x (by decide)⟩, h.ty.set_ _ _⟩
theorem own_far {w w' : World} {base e size n g : Nat} {v : Value} {xs : List Value} (h : w.ownsRow base e size v n xs) (hg : w.grownBy w' (some g)) (hb : g < base) : w'.ownsRow base e size v n xs := by
  refine h.kept hg ?_
  rcases h.2 with ⟨rfl, _⟩ | ⟨k, cap, cur, rfl, hk, _⟩
  · exact .inl rfl
  · refine .inr (fun e => ?_)
    simp [Value.ownBlock] at e
    omega
theorem FrsIn.far {w w' : World} {base g : Nat} (hg : w.grownBy w' (some g)) (hb : g < base) : ∀ {fs : List Fr} {xs : List Value}, FrsIn w base fs xs → FrsIn w' base fs xs
  | [], _, h => h
  | _ :: _, _, ⟨A, c, ys, e, h1, h2⟩ => ⟨A, c, ys, e, own_far h1 hg hb, FrsIn.far hg hb h2⟩
theorem Frs.far {w : World} {base g i : Nat} {v u : Value} {fs : List Fr} {xs : List Value} (h : Frs w base v fs xs) (hb : g < base) : Frs (w.setCell ⟨g, i, none⟩ u) base v fs xs :=
  ⟨own_far h.row (set_grown w g i u) hb, FrsIn.far (set_grown w g i u) hb h.cells⟩
set_option maxRecDepth 10000 in
theorem spl_noughts : spl 132 10 ([] ++ [0, 0, 0, 0, 0, 0, 0, 0, 0]) = ([], [], 20) := by kernel_rfl
end Go.Proofs.Ytiehhoonfneccaa
