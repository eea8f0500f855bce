/- header.Check: what it computes. No condition but that the flags are a byte. -/
import Derived.Test.YtiehhoonfneccaaHA
import Derived.Deep.RegionHeld3
namespace Go.Proofs.Ytiehhoonfneccaa
open Go.RowKit
/-- May a direction not have these flags? -/
def badF (V F : Int) : Bool := if V = 4 then decide (F % 2 = 1 ∨ 4 ≤ F / 2) else decide (F % 2 = 1 ∨ 8 ≤ F / 2)
def chk (V F O L : Int) : Int := if V ≠ 4 ∧ V ≠ 132 then 20 else if badF V F = true then 21 else if hasB (opsOf V) O = false then 22 else if 1048576 < L then 12 else 0
theorem and6 : ∀ n : Fin 256, decide (bits .andNot .u8 (n.val : Int) 6 = 0) = !badF 4 (n.val : Int) := by decide +kernel
theorem and14 : ∀ n : Fin 256, decide (bits .andNot .u8 (n.val : Int) 14 = 0) = !badF 132 (n.val : Int) := by decide +kernel
theorem flags_4 {F : Int} (h0 : 0 ≤ F) (h1 : F < 256) : (bits .andNot .u8 F 6 = 0) ↔ badF 4 F = false := by
  obtain ⟨n, rfl⟩ := Int.eq_ofNat_of_zero_le h0
  have := and6 ⟨n, by omega⟩
  simp only [] at this
  cases hb : badF 4 (n : Int) <;> rw [hb] at this <;> simpa using this
theorem flags_132 {F : Int} (h0 : 0 ≤ F) (h1 : F < 256) : (bits .andNot .u8 F 14 = 0) ↔ badF 132 F = false := by
  obtain ⟨n, rfl⟩ := Int.eq_ofNat_of_zero_le h0
  have := and14 ⟨n, by omega⟩
  simp only [] at this
  cases hb : badF 132 (n : Int) <;> rw [hb] at this <;> simpa using this
/-- A header's value. -/
abbrev hdr (V F S O L : Int) : Value := .agg #[.int .u8 V, .int .u8 F, .int .i16 S, .int .u8 O, .int .u32 L]
/-- A header's box, once more has been made. -/
theorem box_kept {w w1 : World} {t : TypeId} {a b c d e : Value} (hb : Below (w.alloc (.cells #[a, b, c, d, e] t)).heap.size (w.alloc (.cells #[a, b, c, d, e] t)) w1) :
    w.heap.size < w1.heap.size ∧ w1.cell? ⟨w.heap.size, 0, none⟩ = some a ∧ w1.cell? ⟨w.heap.size, 1, none⟩ = some b ∧ w1.cell? ⟨w.heap.size, 2, none⟩ = some c ∧ w1.cell? ⟨w.heap.size, 3, none⟩ = some d ∧ w1.cell? ⟨w.heap.size, 4, none⟩ = some e ∧ Below w.heap.size w w1 := by
  have hr : Row w1 w.heap.size t #[a, b, c, d, e] := (Row.new w t _).below hb (by simp)
  refine ⟨hr.lt, ?_, ?_, ?_, ?_, ?_, below_then (below_new (Below.refl _ _) _) hb⟩ <;> rw [hr.cell] <;> rfl
theorem contains_is {B : Nat} {A : Option Addr} {n c : Nat} {l : List UInt8} (w : World) (hl : BS w B A n c l) (o : Int) (b : Bool) (h : hasB l o = b) :
    Calls Try.prog 35 #[.slice A n c, .int .u8 o] w fun e w' => e = .returned (.bool b) ∧ w = w' := by
  subst h
  exact contains_any w hl o
theorem check_no (V F S O L : Int) (w : World) (h4 : ¬ V = 4) (h132 : ¬ V = 132) :
    Calls Try.prog 19 #[hdr V F S O L] w fun e w' => e = .returned (.int .i64 20) ∧ Below w.heap.size w w' := by
  go_enter Try.func19, Try.ntmps19
  go_wp2_with fail
  refine (of_no V _ h4 h132).mono ?_
  rintro e w1 ⟨rfl, hb⟩
  obtain ⟨hlt, c0, c1, c2, c3, c4, hb0⟩ := box_kept hb
  clear hb
  go_wp2_with fail
  go_ret
  exact ⟨rfl, below_new hb0 _⟩
theorem check_4 (F S O L : Int) (w : World) (hF0 : 0 ≤ F) (hF1 : F < 256) :
    Calls Try.prog 19 #[hdr 4 F S O L] w fun e w' => e = .returned (.int .i64 (chk 4 F O L)) ∧ Below w.heap.size w w' := by
  have hfl := flags_4 hF0 hF1
  by_cases hb : badF 4 F = true
  · have h1 : ¬ bits .andNot .u8 F 6 = 0 := fun e => by rw [hfl.1 e] at hb; cases hb
    have hc : chk 4 F O L = 21 := by simp [chk, hb]
    rw [hc]
    clear hfl hb hc
    go_enter Try.func19, Try.ntmps19
    go_wp2_with fail
    refine (of_4 _).mono ?_
    rintro e w1 ⟨A, c, rfl, hbs, hb⟩
    obtain ⟨hlt, c0, c1, c2, c3, c4, hb0⟩ := box_kept hb
    clear hb
    go_wp2_with fail
    go_ret
    exact ⟨rfl, below_new hb0 _⟩
  · have hb' : badF 4 F = false := by simpa using hb
    have h1 : bits .andNot .u8 F 6 = 0 := hfl.2 hb'
    by_cases ho : hasB (opsOf 4) O = false
    · have hc : chk 4 F O L = 22 := by simp [chk, hb', ho]
      rw [hc]
      clear hfl hb hb' hc
      go_enter Try.func19, Try.ntmps19
      go_wp2_with fail
      refine (of_4 _).mono ?_
      rintro e w1 ⟨A, c, rfl, hbs, hb⟩
      obtain ⟨hlt, c0, c1, c2, c3, c4, hb0⟩ := box_kept hb
      clear hb
      go_wp2_with fail
      refine (contains_is _ (hbs.alloc (Nat.le_refl _) _) O _ ho).mono ?_
      rintro e w2 ⟨rfl, rfl⟩
      go_wp2_with fail
      go_ret
      exact ⟨rfl, below_new hb0 _⟩
    · have ho' : hasB (opsOf 4) O = true := by simpa using ho
      by_cases hL : 1048576 < L
      · have hc : chk 4 F O L = 12 := by simp [chk, hb', ho', hL]
        rw [hc]
        clear hfl hb hb' hc
        go_enter Try.func19, Try.ntmps19
        go_wp2_with fail
        refine (of_4 _).mono ?_
        rintro e w1 ⟨A, c, rfl, hbs, hb⟩
        obtain ⟨hlt, c0, c1, c2, c3, c4, hb0⟩ := box_kept hb
        clear hb
        go_wp2_with fail
        refine (contains_is _ (hbs.alloc (Nat.le_refl _) _) O _ ho').mono ?_
        rintro e w2 ⟨rfl, rfl⟩
        go_wp2_with fail
        go_ret
        exact ⟨rfl, below_new hb0 _⟩
      · have hc : chk 4 F O L = 0 := by simp [chk, hb', ho', hL]
        rw [hc]
        clear hfl hb hb' hc
        go_enter Try.func19, Try.ntmps19
        go_wp2_with fail
        refine (of_4 _).mono ?_
        rintro e w1 ⟨A, c, rfl, hbs, hb⟩
        obtain ⟨hlt, c0, c1, c2, c3, c4, hb0⟩ := box_kept hb
        clear hb
        go_wp2_with fail
        refine (contains_is _ (hbs.alloc (Nat.le_refl _) _) O _ ho').mono ?_
        rintro e w2 ⟨rfl, rfl⟩
        go_wp2_with fail
        go_ret
        exact ⟨rfl, below_new hb0 _⟩
theorem check_132 (F S O L : Int) (w : World) (hF0 : 0 ≤ F) (hF1 : F < 256) :
    Calls Try.prog 19 #[hdr 132 F S O L] w fun e w' => e = .returned (.int .i64 (chk 132 F O L)) ∧ Below w.heap.size w w' := by
  have hfl := flags_132 hF0 hF1
  by_cases hb : badF 132 F = true
  · have h1 : ¬ bits .andNot .u8 F 14 = 0 := fun e => by rw [hfl.1 e] at hb; cases hb
    have hc : chk 132 F O L = 21 := by simp [chk, hb]
    rw [hc]
    clear hfl hb hc
    go_enter Try.func19, Try.ntmps19
    go_wp2_with fail
    refine (of_132 _).mono ?_
    rintro e w1 ⟨A, c, rfl, hbs, hb⟩
    obtain ⟨hlt, c0, c1, c2, c3, c4, hb0⟩ := box_kept hb
    clear hb
    go_wp2_with fail
    go_ret
    exact ⟨rfl, below_new hb0 _⟩
  · have hb' : badF 132 F = false := by simpa using hb
    have h1 : bits .andNot .u8 F 14 = 0 := hfl.2 hb'
    by_cases ho : hasB (opsOf 132) O = false
    · have hc : chk 132 F O L = 22 := by simp [chk, hb', ho]
      rw [hc]
      clear hfl hb hb' hc
      go_enter Try.func19, Try.ntmps19
      go_wp2_with fail
      refine (of_132 _).mono ?_
      rintro e w1 ⟨A, c, rfl, hbs, hb⟩
      obtain ⟨hlt, c0, c1, c2, c3, c4, hb0⟩ := box_kept hb
      clear hb
      go_wp2_with fail
      refine (contains_is _ (hbs.alloc (Nat.le_refl _) _) O _ ho).mono ?_
      rintro e w2 ⟨rfl, rfl⟩
      go_wp2_with fail
      go_ret
      exact ⟨rfl, below_new hb0 _⟩
    · have ho' : hasB (opsOf 132) O = true := by simpa using ho
      by_cases hL : 1048576 < L
      · have hc : chk 132 F O L = 12 := by simp [chk, hb', ho', hL]
        rw [hc]
        clear hfl hb hb' hc
        go_enter Try.func19, Try.ntmps19
        go_wp2_with fail
        refine (of_132 _).mono ?_
        rintro e w1 ⟨A, c, rfl, hbs, hb⟩
        obtain ⟨hlt, c0, c1, c2, c3, c4, hb0⟩ := box_kept hb
        clear hb
        go_wp2_with fail
        refine (contains_is _ (hbs.alloc (Nat.le_refl _) _) O _ ho').mono ?_
        rintro e w2 ⟨rfl, rfl⟩
        go_wp2_with fail
        go_ret
        exact ⟨rfl, below_new hb0 _⟩
      · have hc : chk 132 F O L = 0 := by simp [chk, hb', ho', hL]
        rw [hc]
        clear hfl hb hb' hc
        go_enter Try.func19, Try.ntmps19
        go_wp2_with fail
        refine (of_132 _).mono ?_
        rintro e w1 ⟨A, c, rfl, hbs, hb⟩
        obtain ⟨hlt, c0, c1, c2, c3, c4, hb0⟩ := box_kept hb
        clear hb
        go_wp2_with fail
        refine (contains_is _ (hbs.alloc (Nat.le_refl _) _) O _ ho').mono ?_
        rintro e w2 ⟨rfl, rfl⟩
        go_wp2_with fail
        go_ret
        exact ⟨rfl, below_new hb0 _⟩
/-- header.Check, of every header. -/
theorem check_any (V F S O L : Int) (w : World) (hF0 : 0 ≤ F) (hF1 : F < 256) :
    Calls Try.prog 19 #[hdr V F S O L] w fun e w' => e = .returned (.int .i64 (chk V F O L)) ∧ Below w.heap.size w w' := by
  by_cases h4 : V = 4
  · subst h4
    exact check_4 F S O L w hF0 hF1
  · by_cases h132 : V = 132
    · subst h132
      exact check_132 F S O L w hF0 hF1
    · have hc : chk V F O L = 20 := by simp [chk, h4, h132]
      rw [hc]
      exact check_no V F S O L w h4 h132
end Go.Proofs.Ytiehhoonfneccaa
