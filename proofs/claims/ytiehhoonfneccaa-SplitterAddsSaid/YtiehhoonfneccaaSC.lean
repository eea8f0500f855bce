/- The splitter's Join; awake of chapter 6. Where all bytes take at most 2^40. -/
import Derived.Test.YtiehhoonfneccaaSB
import Derived.WalkMore
namespace Go.Proofs.Ytiehhoonfneccaa
open Go.RowKit
set_option maxRecDepth 20000 in
theorem sadd_none {A : Option Addr} {n c : Nat} (w : World) : Calls Try.prog 26 #[.pointer none, .slice A n c] w fun e w' => e = .returned (.tuple #[.slice none 0 0, .int .i64 1]) ∧ w = w' := by
  go_enter Try.func26, Try.ntmps26
  go_wp2_with fail
  go_step3
  go_wp2_with fail
  rw [Exit.noGoto_ret]
  go_ret2
  exact ⟨rfl, rfl⟩
set_option maxRecDepth 20000 in
theorem add_err {w : World} {p : Nat} {ver er : Int} {l : List UInt8} {A A2 : Option Addr} {c m c2 : Nat} (h : Spl w p ver l er A c) (he : ¬ er = 0) :
    Calls Try.prog 26 #[.pointer (some ⟨p, 0, none⟩), .slice A2 m c2] w fun e w' => e = .returned (.tuple #[.slice none 0 0, .int .i64 er]) ∧ Below w.heap.size w w' := by
  obtain ⟨q0, q1, q2, q3, q4, q5, q6⟩ := spl_cells h
  go_enter Try.func26, Try.ntmps26
  go_wp2_with fail
  go_step3
  go_wp2_with fail
  go_quiet (fail)
  go_wp2_with fail
  rw [Exit.noGoto_ret]
  go_ret2
  exact ⟨rfl, below_drewN (Below.refl _ _) _⟩
/-- A frame's value. -/
abbrev frV (V F S O L : Int) (A : Option Addr) (n c : Nat) : Value := .agg #[.int .u8 V, .int .u8 F, .int .i16 S, .int .u8 O, .int .u32 L, .slice A n c]
theorem join_body {A : Option Addr} {n c : Nat} (V F S O L : Int) (w : World) (hL0 : 0 ≤ L) (hL1 : L < 4294967296) (hn : n ≤ 1099511627776) (h : ¬ L = (n : Int)) :
    Calls Try.prog 30 #[frV V F S O L A n c] w fun e w' => e = .returned (.tuple #[.slice none 0 0, .int .i64 23]) ∧ Below w.heap.size w w' := by
  go_enter Try.func30, Try.ntmps30
  go_wp2_with fail
  go_ret2
  exact ⟨rfl, below_new (Below.refl _ _) _⟩
/-- A frame's box, once more has been made. -/
theorem box6_kept {w w1 : World} {t : TypeId} {a b c d e f : Value} (hb : Below (w.alloc (.cells #[a, b, c, d, e, f] t)).heap.size (w.alloc (.cells #[a, b, c, d, e, f] t)) w1) :
    w.heap.size < w1.heap.size ∧ w1.cell? ⟨w.heap.size, 5, none⟩ = some f ∧ Below w.heap.size w w1 := by
  have hr : Row w1 w.heap.size t #[a, b, c, d, e, f] := (Row.new w t _).below hb (by simp)
  refine ⟨hr.lt, ?_, below_then (below_new (Below.refl _ _) _) hb⟩
  rw [hr.cell]
  rfl
set_option maxHeartbeats 800000 in
theorem join_ok {A : Option Addr} {n c : Nat} {l : List UInt8} (V F S O : Int) (w : World) (hl : SW w A n c l) (hn : n ≤ 1048576) (hV0 : 0 ≤ V) (hV1 : V < 256) (hF0 : 0 ≤ F) (hF1 : F < 256) (hO0 : 0 ≤ O) (hO1 : O < 256) (h : chk V F O n = 0) :
    Calls Try.prog 30 #[frV V F S O n A n c] w fun e w' => ∃ v, e = .returned (.tuple #[v, .int .i64 0]) ∧ w'.ownsRow w.heap.size 5 1 v (9 + n) (bv (putH V F S O n ++ l)) ∧ Below w.heap.size w w' := by
  obtain ⟨i0, hi, hz0, hz1, hz2⟩ := info_parts info_byte
  go_enter Try.func30, Try.ntmps30
  go_wp2_with fail
  refine (hput_ok V F S O n _ hV0 hV1 hF0 hF1 hO0 hO1 (by omega) (by omega) h).mono ?_
  rintro e w1 ⟨v, rfl, hown, hb1⟩
  obtain ⟨hlt, c5, hb01⟩ := box6_kept hb1
  have hl1 : SW w1 A n c l := SW.then_ hl hb01
  have hob := own_blk hown
  go_wp2_with (at_builtin; refine wpList_append_bs _ rfl _ _ 27 rfl (w.heap.size + 1) 5 i0 (.int .u8 0) Try.underlying27 hi hz0 hz1 hz2 rfl _ 9 _ rfl (owns_mono hown (by simp)) rfl hl1 ?_ ?_ ?_)
  · omega
  · omega
  · intro v' w' hown' hg' hat
    rw [← bv_append] at hown'
    go_wp2_with fail
    go_ret2
    refine ⟨_, rfl, owns_mono hown' (by omega), ?_⟩
    refine below_then (w := w.alloc (.cells #[.int .u8 V, .int .u8 F, .int .i16 S, .int .u8 O, .int .u32 n, .slice A n c] 60)) (below_new (Below.refl _ _) _) ?_
    exact hb1.grown hg' hb1.size hob
/-- The first frame of a row. -/
theorem frs_first {w : World} {base : Nat} {v : Value} {f : Fr} {fs : List Fr} {xs : List Value} (h : Frs w base v (f :: fs) xs) : ∃ g cap A c, v = .slice (some ⟨g, 0, none⟩) (fs.length + 1) cap ∧ fs.length + 1 ≤ cap ∧ cap ≤ maxLen ∧ g < w.heap.size ∧ w.cell? ⟨g, 5, none⟩ = some (.slice A f.body.length c) ∧ SW w A f.body.length c f.body := by
  obtain ⟨A, c, ys, e, h1, _⟩ := h.cells
  have hr := h.row
  rcases hr.2 with ⟨_, hn⟩ | ⟨g, cap, cur, hv, _, hk, hc, hm, hs, ht⟩
  · simp at hn
  · subst hv
    refine ⟨g, cap, A, c, by simp, by simpa using hc, hm, (Array.getElem?_eq_some_iff.1 hk).1, ?_, ?_⟩
    · have := hr.cellAt 5 (by simp; omega)
      rw [this, e]
      rfl
    · obtain ⟨A', c', e', hsw⟩ := SW.of_own h1
      injection e' with e1 _ e3
      subst e1
      subst e3
      exact hsw
end Go.Proofs.Ytiehhoonfneccaa
