/- slices.Grow of none, slices.Concat of byte slices: what they compute, where all bytes take at most 2^47. -/
import Derived.Test.YtiehhoonfneccaaOC
import Derived.Deep.RegionHeld3
import Derived.Lib.AppendZerosOnto
namespace Go.Proofs.Ytiehhoonfneccaa
open Go.RowKit
theorem owns_block {w : World} {base e n : Nat} {v : Value} {xs : List Value} (h : w.ownsRow base e 1 v n xs) : ∀ k, v.ownBlock = some k → base ≤ k := by
  intro k hk
  rcases h.2 with ⟨hv, _⟩ | ⟨g, cap, cur, hv, hb, _⟩
  all_goals subst hv
  all_goals simp [Value.ownBlock] at hk
  all_goals omega
theorem grow_0 (w : World) : Calls Try.prog 39 #[.slice none 0 0, .int .i64 0] w fun e w' => e = .returned (.slice none 0 0) ∧ w = w' := by
  go_enter Try.func39, Try.ntmps39
  go_wp2_with fail
  go_ret
  exact ⟨rfl, rfl⟩
theorem grow_any (n : Nat) (w : World) (hn : n ≤ 140737488355328) : Calls Try.prog 39 #[.slice none 0 0, .int .i64 (n : Int)] w fun e w' => ∃ v, e = .returned v ∧ w'.ownsRow w.heap.size 5 1 v 0 [] ∧ Below w.heap.size w w' := by
  rcases Nat.eq_zero_or_pos n with rfl | hp
  · refine (grow_0 w).mono ?_
    rintro e w' ⟨rfl, rfl⟩
    exact ⟨_, rfl, World.ownsRow_nil _ _ _ _, Below.refl _ _⟩
  obtain ⟨i0, hi, hz0, hz1, hz2⟩ := info_parts info_byte
  have hrz : ∀ ty, (Builtin.append_ #[27, 3] ty #[.slice none 0 0, .int .i64 (n : Int)]).run Try.prog w =
      .ok (.slice (some ⟨w.heap.size, 0, none⟩) n (grownCap w n 0 5)) (w.drew.alloc (.cells ((#[] : Array Value) ++ Builtin.zeroCells (Value.int .u8 0).cells n ++ Builtin.zeroCells (Value.int .u8 0).cells (grownCap w n 0 5 - n)) 5)) := fun ty => by
    have h := Lib.run_append_grow_zeros (P := Try.prog) w 27 3 ty 5 i0 (.int .u8 0) .i64 .i64 Try.underlying27 Try.underlying3 hi hz0 none 0 0 [] (run_firstCells_none w.drew i0.size 0 0 0) n hp (by omega) (by omega) (by omega) (by rw [hz2]; omega)
      (by rw [hz2]; have := growslice_fits (old := 0) (need := n) (bytes := 1) (by omega) (by omega); simpa using this)
    simpa using h
  have hG1 : n ≤ grownCap w n 0 5 := grownCap_ge w _ _ _
  have hG2 := grownCap_le_maxLen w n 0 5 (by unfold maxLen; omega)
  have hG3 : ((#[] : Array Value) ++ Builtin.zeroCells (Value.int .u8 0).cells n ++ Builtin.zeroCells (Value.int .u8 0).cells (grownCap w n 0 5 - n)).size = grownCap w n 0 5 := by
    simp [Builtin.zeroCells, Value.cells]
    omega
  generalize ((#[] : Array Value) ++ Builtin.zeroCells (Value.int .u8 0).cells n ++ Builtin.zeroCells (Value.int .u8 0).cells (grownCap w n 0 5 - n)) = cs at hrz hG3
  generalize grownCap w n 0 5 = G at hrz hG1 hG2 hG3
  have hGm := hG2
  unfold maxLen at hGm
  have hR := Lib.hid (Row.new w 5 cs)
  have HG := Lib.hid hG3
  clear hG3
  go_enter Try.func39, Try.ntmps39
  go_wp2_with (at_builtin; refine Lib.wpList_append_run _ rfl _ _ _ _ rfl _ _ rfl rfl _ _ (hrz _) ?_)
  go_ret
  refine ⟨_, rfl, ?_, (below_new (Below.refl _ _) _).drew⟩
  have := (hR.out.drew).owns (Nat.le_refl _) (n := 0) (Nat.zero_le _) (by rw [HG.out]; exact hG2)
  rw [HG.out] at this
  simpa using this
/-- One part of a join. -/
structure Part where
  A : Option Addr
  n : Nat
  c : Nat
  l : List UInt8
def Part.v (p : Part) : Value := .slice p.A p.n p.c
/-- The parts lie in block g. -/
structure Parts (w : World) (B g : Nat) (ps : List Part) : Prop where
  cell : ∀ i (h : i < ps.length), w.cell? ⟨g, i, none⟩ = some (.slice ps[i].A ps[i].n ps[i].c)
  bs : ∀ i (h : i < ps.length), BS w B ps[i].A ps[i].n ps[i].c ps[i].l
def catL (ps : List Part) : List UInt8 := ps.flatMap (·.l)
def catN (ps : List Part) : Nat := (ps.map (·.n)).sum
theorem catN_le (ps : List Part) (k : Nat) : catN (ps.take k) ≤ catN ps := by
  conv => rhs; rw [← List.take_append_drop k ps]
  simp only [catN, List.map_append, List.sum_append]
  omega
theorem catN_step (ps : List Part) (k : Nat) (h : k < ps.length) : catN (ps.take (k + 1)) = catN (ps.take k) + ps[k].n := by
  rw [List.take_succ_eq_append_getElem h]
  simp only [catN, List.map_append, List.sum_append, List.map_cons, List.map_nil, List.sum_cons, List.sum_nil, Nat.add_zero]
theorem catL_step (ps : List Part) (k : Nat) (h : k < ps.length) : catL (ps.take (k + 1)) = catL (ps.take k) ++ ps[k].l := by
  rw [List.take_succ_eq_append_getElem h]
  simp only [catL, List.flatMap_append, List.flatMap_cons, List.flatMap_nil, List.append_nil]
set_option maxHeartbeats 800000 in
theorem concat_any (w : World) (g : Nat) (ps : List Part) (m c : Nat) (hm : m = ps.length) (hp : Parts w w.heap.size g ps) (hg : g < w.heap.size) (hmc : m ≤ c) (hcm : c ≤ maxLen) (hsum : catN ps ≤ 140737488355328) :
    Calls Try.prog 32 #[.slice (some ⟨g, 0, none⟩) m c] w fun e w' => ∃ v, e = .returned v ∧ w'.ownsRow w.heap.size 5 1 v (catN ps) (bv (catL ps)) ∧ Below w.heap.size w w' := by
  obtain ⟨i0, hi, hz0, hz1, hz2⟩ := info_parts info_byte
  unfold maxLen at hcm
  subst hm
  go_enter Try.func32, Try.ntmps32
  go_wp2_with fail
  go_loop [3, 11] (fun s i => ∃ k : Nat, k ≤ ps.length ∧ i = .int .i64 k ∧ s = .int .i64 (catN (ps.take k) : Nat)) (fun _ i => ps.length - (intOf i).toNat)
  case atStart => exact ⟨0, Nat.zero_le _, rfl, rfl⟩
  case round =>
    obtain ⟨k, hk, rfl, rfl⟩ := hrel
    by_cases hlt : k < ps.length
    · have hc := hp.cell k hlt
      have hs := catN_step ps k hlt
      have hle := catN_le ps (k + 1)
      have hnn := (hp.bs k hlt).max
      have hnc := (hp.bs k hlt).cap
      go_wp2_with fail
      exact ⟨⟨k + 1, by omega, by go_num, by rw [hs]; go_num⟩, by simp [intOf]; omega⟩
    · obtain rfl : k = ps.length := by omega
      rw [List.take_length]
      go_wp2_with fail
      refine (grow_any (catN ps) _ hsum).mono ?_
      rintro e w1 ⟨v0, rfl, hown0, hb0⟩
      go_wp2_with fail
      go_loopw [6, 27] (fun v i wr => ∃ k : Nat, k ≤ ps.length ∧ i = .int .i64 k ∧ wr.ownsRow w.heap.size 5 1 v (catN (ps.take k)) (bv (catL (ps.take k))) ∧ Below w.heap.size w wr) (fun _ i _ => ps.length - (intOf i).toNat)
      case atStart => exact ⟨0, Nat.zero_le _, rfl, hown0, hb0⟩
      case round =>
        obtain ⟨k, hk, rfl, hown, hb⟩ := hrel
        by_cases hlt2 : k < ps.length
        · have hc := (hb.cell (p := ⟨g, k, none⟩) hg).trans (hp.cell k hlt2)
          have hs := catN_step ps k hlt2
          have hle := catN_le ps (k + 1)
          have hbs := (hp.bs k hlt2).below hb
          have HL := Lib.hid (catL_step ps k hlt2)
          have hob := owns_block hown
          have hwb := hb.size
          go_wp2_with (at_builtin; refine wpList_append_bs _ rfl _ _ 27 rfl w.heap.size 5 i0 (.int .u8 0) Try.underlying27 hi hz0 hz1 hz2 rfl _ _ _ rfl hown rfl hbs ?_ ?_ ?_)
          · omega
          · exact hwb
          · intro v' w' hown' hg' hat
            go_wp2_with fail
            exact ⟨⟨k + 1, by omega, by go_num, by rw [hs, HL.out, bv_append]; exact hown', hb.grown hg' hwb hob⟩, by simp [intOf]; omega⟩
        · obtain rfl : k = ps.length := by omega
          rw [List.take_length] at hown
          go_wp2_with fail
          go_ret
          exact ⟨_, rfl, hown, hb⟩
end Go.Proofs.Ytiehhoonfneccaa
