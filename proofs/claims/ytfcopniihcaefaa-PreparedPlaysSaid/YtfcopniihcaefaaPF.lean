/- prepared: slices.Delete of one entry. Of at most 2^40 entries. -/
import Derived.Test.YtfcopniihcaefaaPE
import Derived.Deep.RegionLaw
namespace Go.Proofs.Ytfcopniihcaefaa
open Go.RowKit
set_option maxHeartbeats 1000000 in
theorem del_one {base g n cap : Nat} {es : List En} (i : Nat) (w : World) (hEB : EB w base g n cap es) (hi : i < n) (hnm : n ≤ 1099511627776) :
    Calls Try.prog 27 #[.slice (some ⟨g, 0, none⟩) n cap, .int .i64 i, .int .i64 ((i : Int) + 1)] w fun e w' => e = .returned (.slice (some ⟨g, 0, none⟩) (n - 1) cap) ∧ EB w' base g (n - 1) cap (es.eraseIdx i) ∧ w.grownBy w' (some g) := by
  have hel := hEB.len
  obtain ⟨_, _, hbg, hncap, hcapm⟩ := hEB.obj
  unfold maxLen at hcapm
  have HEB := Lib.hid hEB
  clear hEB
  have hne1 : ((i : Int) == (i : Int) + 1) = false := beq_eq_false_iff_ne.2 (by omega)
  obtain ⟨i0, hi0, hz0, hs0, hb0⟩ := info_en3
  have hun := Try.underlying48
  have hdl : (es.drop (i + 1)).length = n - (i + 1) := by rw [List.length_drop]; omega
  have hnl : ((es.drop (i + 1)).flatMap enCells).length = (n - (i + 1)) * 3 := by rw [en_len, hdl]
  have hEBd : EB w.drew base g n cap es := HEB.out
  obtain ⟨hl1, hl2⟩ := hEBd.lay i (i * 3) (es.drop (i + 1)) rfl (by omega)
  have hspare : ∀ j, j < ((es.drop (i + 1)).flatMap enCells).length → (w.drew.cell? ⟨g, 0 + i * 3 + j, none⟩).isSome = true ∧ w.drew.frozen? ⟨g, 0 + i * 3 + j, none⟩ = false := fun j hj => ⟨hEBd.is _ (by omega), hEBd.fro _⟩
  have hnews : ∀ j u, ((es.drop (i + 1)).flatMap enCells)[j]? = some u → w.drew.cell? ⟨g, (i + 1) * 3 + j, none⟩ = some u := fun j u hj => by
    have hj' : j < ((es.drop (i + 1)).flatMap enCells).length := (List.getElem?_eq_some_iff.1 hj).1
    rw [← en_drop, List.getElem?_drop] at hj
    have := World.ownsRow.cellAt hEBd ((i + 1) * 3 + j) (by omega)
    rw [this, hj]
  obtain ⟨wA, hwA⟩ : ∃ wA, wA = w.drew.setCells g (i * 3) ((es.drop (i + 1)).flatMap enCells) := ⟨_, rfl⟩
  rw [← hwA] at hl1 hl2
  obtain ⟨hm1, hm2⟩ := hl1.lay (n - 1) ((n - 1) * 3) [en0] rfl (by simp; omega)
  have hcl : ∀ ty, (Builtin.clear_ #[48] ty #[.slice (some ⟨g, (n - 1) * 3, none⟩) (n - (n - 1)) (cap - (n - 1))]).run Try.prog wA = .ok (.tuple #[]) (wA.setCells g ((n - 1) * 3) ([en0].flatMap enCells)) :=
    fun ty => by
      rw [show n - (n - 1) = 1 by omega]
      exact run_clear_en wA ty g ((n - 1) * 3) 1 _ (fun j hj => hl1.is _ (by omega)) (fun j hj => hl1.fro _)
  have HM1 := Lib.hid (hm1.cut (n - 1) (by omega))
  have HM2 := Lib.hid (grown_then (a := w) ⟨hl2.os, hl2.tape, hl2.output, hl2.size, hl2.block⟩ hm2)
  have HSP := Lib.hid hspare
  have HNW := Lib.hid hnews
  have HWA := Lib.hid hwA
  have hlist : (es.take i ++ es.drop (i + 1) ++ es.drop (i + (es.drop (i + 1)).length)).take (n - 1) = es.eraseIdx i := by
    rw [List.eraseIdx_eq_take_drop_succ, List.take_append_of_le_length (by simp [List.length_take]; omega), List.take_of_length_le (by simp [List.length_take]; omega)]
  have HLI := Lib.hid hlist
  have HLE := Lib.hid (show (es.eraseIdx i).length = n - 1 by rw [List.length_eraseIdx_of_lt (by omega)]; omega)
  have HNL := Lib.hid hnl
  clear hwA hEBd hl1 hl2 hm1 hm2 hspare hnews hlist hnl
  have hic : i ≤ cap := by omega
  have hin : i + 1 ≤ n := hi
  have hnn : n - (i + 1) ≤ cap - (i + 1) := by omega
  have hnc : ¬ n < i + 1 := by omega
  have hz1 : (0 : Int) ≤ (i : Int) + 1 := by omega
  have hz2 : (i : Int) + 1 ≤ (n : Int) := by omega
  by_cases hc : i + 1 = cap
  · subst hc
    have h00 : n - (i + 1) = 0 := by omega
    have HNW2 := Lib.hid (show ∀ j u, ((es.drop (i + 1)).flatMap enCells)[j]? = some u → w.drew.cell? ⟨g, 0 + j, none⟩ = some u from fun j u hj => by
      have hj' : j < ((es.drop (i + 1)).flatMap enCells).length := (List.getElem?_eq_some_iff.1 hj).1
      rw [HNL.out, h00] at hj'
      omega)
    clear h00
    have hz3 : (i : Int) ≤ (i : Int) + 1 := by omega
    have HIX := Lib.hid (show i + 0 = n - 1 by omega)
    have HN0 := Lib.hid (show ((es.drop (i + 1)).flatMap enCells).length = 0 * 3 by rw [HNL.out]; omega)
    have hn1 : n - 1 ≤ i + 1 := by omega
    have hn2 : n - 1 ≤ n := by omega
    have hn3 : ((n - 1 : Nat) : Int) ≤ (n : Int) := by omega
    have hn4 : i + 1 ≠ n - 1 := by omega
    go_enter Try.func27, Try.ntmps27
    go_wp2_with fail
    go_region_law (refine step_append_room rfl (.tmp 22) (.tmp 25) 48 rfl 31 i0 3 hun hi0 hs0 g 0 i (i + 1) (by rfl) ⟨g, 0, none⟩ 0 0 ((es.drop (i + 1)).flatMap enCells) (by rfl) HN0.out (by intro j u hj; rw [add_none]; exact HNW2.out j u hj) (en_one _) (by omega) HSP.out ?_; rw [Nat.zero_add, ← HWA.out, HIX.out])
    all_goals go_wp2_with fail
    all_goals go_ret
    all_goals exact ⟨rfl, by have h := HM1.out; rw [HLI.out, List.append_assoc, List.take_append_of_le_length (by rw [HLE.out]; exact Nat.le_refl _), List.take_of_length_le (by rw [HLE.out]; exact Nat.le_refl _)] at h; exact h, HM2.out⟩
  · have hc' : cap ≠ i + 1 := fun e => hc e.symm
    have HIX := Lib.hid (show i + (n - (i + 1)) = n - 1 by omega)
    have hn1 : n - 1 ≤ cap := by omega
    have hn2 : n - 1 ≤ n := by omega
    have hn3 : ((n - 1 : Nat) : Int) ≤ (n : Int) := by omega
    have hn4 : cap ≠ n - 1 := by omega
    go_enter Try.func27, Try.ntmps27
    go_wp2_with fail
    go_region_law (refine step_append_room rfl (.tmp 22) (.tmp 25) 48 rfl 31 i0 3 hun hi0 hs0 g 0 i (cap) (by rfl) ⟨g, (i + 1) * 3, none⟩ (n - (i + 1)) (cap - (i + 1)) ((es.drop (i + 1)).flatMap enCells) (by rfl) HNL.out (by intro j u hj; rw [add_none]; exact HNW.out j u hj) (en_one _) (by omega) HSP.out ?_; rw [Nat.zero_add, ← HWA.out, HIX.out])
    all_goals go_wp2_with fail
    all_goals go_ret
    all_goals exact ⟨rfl, by have h := HM1.out; rw [HLI.out, List.append_assoc, List.take_append_of_le_length (by rw [HLE.out]; exact Nat.le_refl _), List.take_of_length_le (by rw [HLE.out]; exact Nat.le_refl _)] at h; exact h, HM2.out⟩
end Go.Proofs.Ytfcopniihcaefaa
