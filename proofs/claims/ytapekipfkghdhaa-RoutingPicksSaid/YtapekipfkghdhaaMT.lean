/- murmur.Token, the document's Token, awake of chapter 11: what they compute. No condition but that the bytes are fewer than 2^63 - 16. -/
import Derived.Test.YtapekipfkghdhaaHY
import Derived.Lib.SlBytesConst
namespace Go.Proofs.Ytapekipfkghdhaa
open Go.RowKit
def hh (l : List UInt8) : Int := finA (hX l) (hY l)
def gg (l : List UInt8) : Int := finB (hX l) (hY l)
def tok (h : Int) : Int := if h = 9223372036854775808 then 9223372036854775807 else wrap64 h
theorem hh_rng (l : List UInt8) : 0 ≤ hh l ∧ hh l < 18446744073709551616 := by
  unfold hh finA
  rw [IntKind.wrap_u64]
  omega
section
variable {B : Nat} {A : Option Addr} {n c : Nat} {l : List UInt8}
theorem token_any (w : World) (hl : BS w B A n c l) : Calls Try.prog 17 #[.slice A n c] w fun e w' => e = .returned (.int .i64 (tok (hh l))) ∧ w = w' := by
  have hr := hh_rng l
  obtain ⟨x, hx⟩ : ∃ x, hh l = x := ⟨_, rfl⟩
  rw [hx] at hr ⊢
  have r0 := hr.1
  have r1 := hr.2
  clear hr
  by_cases h : x = 9223372036854775808
  · have ht : tok x = 9223372036854775807 := by unfold tok; rw [if_pos h]
    have hw : wrap64 x = -9223372036854775808 := by rw [h]; unfold wrap64; omega
    rw [ht]
    clear ht
    have HH := Lib.hid h
    clear h
    go_enter Try.func17, Try.ntmps17
    go_wp2_with fail
    refine (hash_any _ hl).mono ?_
    rintro e w' ⟨rfl, rfl⟩
    rw [show finA (hX l) (hY l) = x from hx]
    go_wp2_with fail
    all_goals go_ret
    all_goals exact ⟨rfl, rfl⟩
  · have ht : tok x = wrap64 x := by unfold tok; rw [if_neg h]
    have hw : ¬ wrap64 x = -9223372036854775808 := by unfold wrap64; omega
    rw [ht]
    clear ht
    go_enter Try.func17, Try.ntmps17
    go_wp2_with fail
    refine (hash_any _ hl).mono ?_
    rintro e w' ⟨rfl, rfl⟩
    rw [show finA (hX l) (hY l) = x from hx]
    go_wp2_with fail
    all_goals go_ret
    all_goals exact ⟨rfl, rfl⟩
theorem rtoken_any (w : World) (hl : BS w B A n c l) (hn : n ≤ 9223372036854775791) : Calls Try.prog 18 #[.slice A n c] w fun e w' => e = .returned (.int .i64 (tok (hh l))) ∧ w = w' := by
  obtain ⟨x, hx⟩ : ∃ x, hh l = x := ⟨_, rfl⟩
  rw [hx]
  by_cases h : x = 9223372036854775808
  · have ht : tok x = 9223372036854775807 := by unfold tok; rw [if_pos h]
    rw [ht]
    clear ht
    go_enter Try.func18, Try.ntmps18
    go_wp2_with fail
    refine (rhash_any _ hl hn).mono ?_
    rintro e w' ⟨rfl, rfl⟩
    rw [show finA (hX l) (hY l) = x from hx]
    go_wp2_with fail
    all_goals go_ret
    all_goals exact ⟨rfl, rfl⟩
  · have ht : tok x = wrap64 x := by unfold tok; rw [if_neg h]
    rw [ht]
    clear ht
    go_enter Try.func18, Try.ntmps18
    go_wp2_with fail
    refine (rhash_any _ hl hn).mono ?_
    rintro e w' ⟨rfl, rfl⟩
    rw [show finA (hX l) (hY l) = x from hx]
    go_wp2_with fail
    all_goals go_ret
    all_goals exact ⟨rfl, rfl⟩
end
theorem BS.mark (w : World) (t : TypeId) (l : List UInt8) (cs : Array Value) (f : Nat × Nat) (h : cs = (bv l).toArray) (n : Nat) (hn : n = l.length) (hm : l.length ≤ maxLen) : BS (w.alloc (.cells cs t f)) (w.heap.size + 1) (some ⟨w.heap.size, 0, none⟩) n n l := by
  subst h
  subst hn
  refine ⟨rfl, Nat.le_refl _, hm, (fun e => by cases e), fun _ => ⟨w.heap.size, 0, rfl, Nat.lt_succ_self _, fun i hi => ?_⟩⟩
  have := World.cell?_alloc_mark w (bv l).toArray t f i
  rw [Nat.zero_add]
  rw [this]
  simp [bv, hi]
theorem hh_a : ¬ hh [97] = 0 := by decide +kernel
theorem tok_nil : tok (hh []) = 0 := by decide +kernel
theorem awake11 (w : World) : Calls Try.prog 14 #[] w fun e w' => e = .returned (.bool true) ∧ Below w.heap.size w w' := by
  have ha := hh_a
  obtain ⟨x, hx⟩ : ∃ x, hh [97] = x := ⟨_, rfl⟩
  rw [hx] at ha
  have hcv := Lib.run_convert_bytes_const (P := Try.prog) w 22 5 #[.int .u8 97] 1 1 Try.underlying22 Try.underlying5
  go_enter Try.func14, Try.ntmps14
  go_wp2_with fail
  refine (hash_any (l := [97]) (B := w.heap.size + 1) _ (BS.mark _ 5 [97] #[.int .u8 97] (1, 2) rfl 1 rfl (by decide))).mono ?_
  rintro e w' ⟨rfl, rfl⟩
  rw [show finA (hX [97]) (hY [97]) = x from hx]
  go_wp2_with fail
  refine (token_any _ (BS.none_ _ 0)).mono ?_
  rintro e w' ⟨rfl, rfl⟩
  rw [tok_nil]
  go_wp2_with fail
  go_ret
  exact ⟨rfl, below_new (Below.refl _ _) _⟩
end Go.Proofs.Ytapekipfkghdhaa
