/- prepared: where an entry stands, by each closure. Of at most 2^40 entries. -/
import Derived.Test.YtfcopniihcaefaaPA
namespace Go.Proofs.Ytfcopniihcaefaa
open Go.RowKit
/-- r is the first place at which f holds; -1: nowhere. -/
def IdxIs (f : En → Bool) (es : List En) (r : Int) : Prop := (∃ k : Nat, r = k ∧ ∃ h : k < es.length, f es[k] = true ∧ ∀ j (hj : j < k), f (es[j]'(by omega)) = false) ∨ (r = -1 ∧ ∀ e ∈ es, f e = false)
theorem ES.en {w : World} {g o : Nat} {es : List En} (h : ES w g o es) (k : Nat) (hk : k < es.length) : w.cell? ⟨g, o + k * 3, none⟩ = some (.string ⟨es[k].t.toArray⟩) ∧ w.cell? ⟨g, o + k * 3 + 1, none⟩ = some (.string ⟨es[k].i.toArray⟩) ∧ w.cell? ⟨g, o + k * 3 + 2, none⟩ = some (.slice es[k].A es[k].n es[k].c) := ⟨h.t k hk, h.i k hk, h.k k hk⟩
theorem idx_text_nil (q : Nat) (A : Option Addr) (c : Nat) (w : World) :
    Calls Try.prog 28 #[.slice A 0 c, .func (.func 24) #[] #[.pointer (some ⟨q, 0, none⟩)]] w fun e w' => e = .returned (.int .i64 (-1)) ∧ w = w' := by
  go_enter Try.func28, Try.ntmps28
  go_wp2_with fail
  go_loopw [8] (fun i wr => i = .int .i64 0 ∧ wr = w) (fun _ _ => 0)
  case atStart => exact ⟨rfl, rfl⟩
  case round =>
    obtain ⟨rfl, rfl⟩ := hrel
    go_wp2_with fail
    go_ret
    exact ⟨rfl, rfl⟩
set_option maxHeartbeats 800000 in
theorem idx_text {g o n c : Nat} {es : List En} (q : Nat) (t : List UInt8) (w : World) (hes : ES w g o es) (hg : g < w.heap.size) (hq : w.cell? ⟨q, 0, none⟩ = some (.string ⟨t.toArray⟩)) (hl : q < w.heap.size) (hn : n = es.length) (hnm : n ≤ 1099511627776) :
    Calls Try.prog 28 #[.slice (some ⟨g, o, none⟩) n c, .func (.func 24) #[] #[.pointer (some ⟨q, 0, none⟩)]] w fun e w' => (∃ r, e = .returned (.int .i64 r) ∧ IdxIs (fun e => e.t == t) es r) ∧ Below w.heap.size w w' := by
  subst hn
  go_enter Try.func28, Try.ntmps28
  go_wp2_with fail
  go_loopw [8] (fun x wr => ∃ k : Nat, k ≤ es.length ∧ x = .int .i64 k ∧ Hid (∀ j (hj : j < es.length), j < k → (fun e : En => e.t == t) es[j] = false) ∧ Below w.heap.size w wr) (fun x _ => es.length - (intOf x).toNat)
  case atStart => exact ⟨0, Nat.zero_le _, rfl, Lib.hid (fun j _ h => absurd h (Nat.not_lt_zero _)), Below.refl _ _⟩
  case round =>
    obtain ⟨k, hk, rfl, hno, hb⟩ := hrel
    by_cases hlt : k < es.length
    · obtain ⟨c0, c1, c2⟩ := (hes.below hg hb).en k hlt
      obtain ⟨e, he⟩ : ∃ e, es[k] = e := ⟨_, rfl⟩
      rw [he] at c0 c1 c2
      have hq' := (hb.cell (p := ⟨q, 0, none⟩) hl).trans hq
      have hqs := hb.size
      have hlr : q < wr.heap.size := Nat.lt_of_lt_of_le hl hb.size
      have hcall := text_c e q t wr hq' hlr
      unfold En.v at hcall
      cases hf : (fun e : En => e.t == t) e with
      | true =>
        simp only at hf
        rw [hf] at hcall
        have HC := Lib.hid hcall
        have HF := Lib.hid hf
        clear hcall hf
        go_wp2_with fail
        refine HC.out.mono ?_
        rintro _ w' ⟨rfl, hb'⟩
        go_wp2_with fail
        go_ret
        exact ⟨⟨_, rfl, .inl ⟨k, rfl, hlt, by simp only [he]; exact HF.out, fun j hj => hno.out j (by omega) hj⟩⟩, below_then hb hb'⟩
      | false =>
        simp only at hf
        rw [hf] at hcall
        have HC := Lib.hid hcall
        have HN := Lib.hid (show ∀ j (hj : j < es.length), j < k + 1 → (fun e : En => e.t == t) es[j] = false from fun j hj h => by
          by_cases hjk : j = k
          · subst hjk
            simp only [he]
            exact hf
          · exact hno.out j hj (by omega))
        clear hcall hf
        go_wp2_with fail
        refine HC.out.mono ?_
        rintro _ w' ⟨rfl, hb'⟩
        go_wp2_with fail
        exact ⟨⟨k + 1, by omega, by go_num, HN, below_then hb hb'⟩, by simp [intOf]; omega⟩
    · obtain rfl : k = es.length := by omega
      go_wp2_with fail
      go_ret
      refine ⟨⟨_, rfl, .inr ⟨rfl, fun e he => ?_⟩⟩, hb⟩
      obtain ⟨j, hj, rfl⟩ := List.mem_iff_getElem.1 he
      exact hno.out j hj hj
theorem idx_id_nil (q : Nat) (A : Option Addr) (c : Nat) (w : World) :
    Calls Try.prog 28 #[.slice A 0 c, .func (.func 25) #[] #[.pointer (some ⟨q, 0, none⟩)]] w fun e w' => e = .returned (.int .i64 (-1)) ∧ w = w' := by
  go_enter Try.func28, Try.ntmps28
  go_wp2_with fail
  go_loopw [8] (fun i wr => i = .int .i64 0 ∧ wr = w) (fun _ _ => 0)
  case atStart => exact ⟨rfl, rfl⟩
  case round =>
    obtain ⟨rfl, rfl⟩ := hrel
    go_wp2_with fail
    go_ret
    exact ⟨rfl, rfl⟩
set_option maxHeartbeats 800000 in
theorem idx_id {g o n c : Nat} {es : List En} (q : Nat) (t : List UInt8) (w : World) (hes : ES w g o es) (hg : g < w.heap.size) (hq : w.cell? ⟨q, 0, none⟩ = some (.string ⟨t.toArray⟩)) (hl : q < w.heap.size) (hn : n = es.length) (hnm : n ≤ 1099511627776) :
    Calls Try.prog 28 #[.slice (some ⟨g, o, none⟩) n c, .func (.func 25) #[] #[.pointer (some ⟨q, 0, none⟩)]] w fun e w' => (∃ r, e = .returned (.int .i64 r) ∧ IdxIs (fun e => e.i == t) es r) ∧ Below w.heap.size w w' := by
  subst hn
  go_enter Try.func28, Try.ntmps28
  go_wp2_with fail
  go_loopw [8] (fun x wr => ∃ k : Nat, k ≤ es.length ∧ x = .int .i64 k ∧ Hid (∀ j (hj : j < es.length), j < k → (fun e : En => e.i == t) es[j] = false) ∧ Below w.heap.size w wr) (fun x _ => es.length - (intOf x).toNat)
  case atStart => exact ⟨0, Nat.zero_le _, rfl, Lib.hid (fun j _ h => absurd h (Nat.not_lt_zero _)), Below.refl _ _⟩
  case round =>
    obtain ⟨k, hk, rfl, hno, hb⟩ := hrel
    by_cases hlt : k < es.length
    · obtain ⟨c0, c1, c2⟩ := (hes.below hg hb).en k hlt
      obtain ⟨e, he⟩ : ∃ e, es[k] = e := ⟨_, rfl⟩
      rw [he] at c0 c1 c2
      have hq' := (hb.cell (p := ⟨q, 0, none⟩) hl).trans hq
      have hqs := hb.size
      have hlr : q < wr.heap.size := Nat.lt_of_lt_of_le hl hb.size
      have hcall := id_c e q t wr hq' hlr
      unfold En.v at hcall
      cases hf : (fun e : En => e.i == t) e with
      | true =>
        simp only at hf
        rw [hf] at hcall
        have HC := Lib.hid hcall
        have HF := Lib.hid hf
        clear hcall hf
        go_wp2_with fail
        refine HC.out.mono ?_
        rintro _ w' ⟨rfl, hb'⟩
        go_wp2_with fail
        go_ret
        exact ⟨⟨_, rfl, .inl ⟨k, rfl, hlt, by simp only [he]; exact HF.out, fun j hj => hno.out j (by omega) hj⟩⟩, below_then hb hb'⟩
      | false =>
        simp only at hf
        rw [hf] at hcall
        have HC := Lib.hid hcall
        have HN := Lib.hid (show ∀ j (hj : j < es.length), j < k + 1 → (fun e : En => e.i == t) es[j] = false from fun j hj h => by
          by_cases hjk : j = k
          · subst hjk
            simp only [he]
            exact hf
          · exact hno.out j hj (by omega))
        clear hcall hf
        go_wp2_with fail
        refine HC.out.mono ?_
        rintro _ w' ⟨rfl, hb'⟩
        go_wp2_with fail
        exact ⟨⟨k + 1, by omega, by go_num, HN, below_then hb hb'⟩, by simp [intOf]; omega⟩
    · obtain rfl : k = es.length := by omega
      go_wp2_with fail
      go_ret
      refine ⟨⟨_, rfl, .inr ⟨rfl, fun e he => ?_⟩⟩, hb⟩
      obtain ⟨j, hj, rfl⟩ := List.mem_iff_getElem.1 he
      exact hno.out j hj hj
theorem idx_drop_nil (q : Nat) (A : Option Addr) (c : Nat) (w : World) :
    Calls Try.prog 28 #[.slice A 0 c, .func (.func 26) #[] #[.pointer (some ⟨q, 0, none⟩)]] w fun e w' => e = .returned (.int .i64 (-1)) ∧ w = w' := by
  go_enter Try.func28, Try.ntmps28
  go_wp2_with fail
  go_loopw [8] (fun i wr => i = .int .i64 0 ∧ wr = w) (fun _ _ => 0)
  case atStart => exact ⟨rfl, rfl⟩
  case round =>
    obtain ⟨rfl, rfl⟩ := hrel
    go_wp2_with fail
    go_ret
    exact ⟨rfl, rfl⟩
set_option maxHeartbeats 800000 in
theorem idx_drop {g o n c : Nat} {es : List En} (q : Nat) (t : List UInt8) (w : World) (hes : ES w g o es) (hg : g < w.heap.size) (hq : w.cell? ⟨q, 0, none⟩ = some (.string ⟨t.toArray⟩)) (hl : q < w.heap.size) (hn : n = es.length) (hnm : n ≤ 1099511627776) :
    Calls Try.prog 28 #[.slice (some ⟨g, o, none⟩) n c, .func (.func 26) #[] #[.pointer (some ⟨q, 0, none⟩)]] w fun e w' => (∃ r, e = .returned (.int .i64 r) ∧ IdxIs (fun e => e.i == t) es r) ∧ Below w.heap.size w w' := by
  subst hn
  go_enter Try.func28, Try.ntmps28
  go_wp2_with fail
  go_loopw [8] (fun x wr => ∃ k : Nat, k ≤ es.length ∧ x = .int .i64 k ∧ Hid (∀ j (hj : j < es.length), j < k → (fun e : En => e.i == t) es[j] = false) ∧ Below w.heap.size w wr) (fun x _ => es.length - (intOf x).toNat)
  case atStart => exact ⟨0, Nat.zero_le _, rfl, Lib.hid (fun j _ h => absurd h (Nat.not_lt_zero _)), Below.refl _ _⟩
  case round =>
    obtain ⟨k, hk, rfl, hno, hb⟩ := hrel
    by_cases hlt : k < es.length
    · obtain ⟨c0, c1, c2⟩ := (hes.below hg hb).en k hlt
      obtain ⟨e, he⟩ : ∃ e, es[k] = e := ⟨_, rfl⟩
      rw [he] at c0 c1 c2
      have hq' := (hb.cell (p := ⟨q, 0, none⟩) hl).trans hq
      have hqs := hb.size
      have hlr : q < wr.heap.size := Nat.lt_of_lt_of_le hl hb.size
      have hcall := drop_c e q t wr hq' hlr
      unfold En.v at hcall
      cases hf : (fun e : En => e.i == t) e with
      | true =>
        simp only at hf
        rw [hf] at hcall
        have HC := Lib.hid hcall
        have HF := Lib.hid hf
        clear hcall hf
        go_wp2_with fail
        refine HC.out.mono ?_
        rintro _ w' ⟨rfl, hb'⟩
        go_wp2_with fail
        go_ret
        exact ⟨⟨_, rfl, .inl ⟨k, rfl, hlt, by simp only [he]; exact HF.out, fun j hj => hno.out j (by omega) hj⟩⟩, below_then hb hb'⟩
      | false =>
        simp only at hf
        rw [hf] at hcall
        have HC := Lib.hid hcall
        have HN := Lib.hid (show ∀ j (hj : j < es.length), j < k + 1 → (fun e : En => e.i == t) es[j] = false from fun j hj h => by
          by_cases hjk : j = k
          · subst hjk
            simp only [he]
            exact hf
          · exact hno.out j hj (by omega))
        clear hcall hf
        go_wp2_with fail
        refine HC.out.mono ?_
        rintro _ w' ⟨rfl, hb'⟩
        go_wp2_with fail
        exact ⟨⟨k + 1, by omega, by go_num, HN, below_then hb hb'⟩, by simp [intOf]; omega⟩
    · obtain rfl : k = es.length := by omega
      go_wp2_with fail
      go_ret
      refine ⟨⟨_, rfl, .inr ⟨rfl, fun e he => ?_⟩⟩, hb⟩
      obtain ⟨j, hj, rfl⟩ := List.mem_iff_getElem.1 he
      exact hno.out j hj hj
theorem idx_put_nil (q : Nat) (A : Option Addr) (c : Nat) (w : World) :
    Calls Try.prog 28 #[.slice A 0 c, .func (.func 21) #[] #[.pointer (some ⟨q, 0, none⟩)]] w fun e w' => e = .returned (.int .i64 (-1)) ∧ w = w' := by
  go_enter Try.func28, Try.ntmps28
  go_wp2_with fail
  go_loopw [8] (fun i wr => i = .int .i64 0 ∧ wr = w) (fun _ _ => 0)
  case atStart => exact ⟨rfl, rfl⟩
  case round =>
    obtain ⟨rfl, rfl⟩ := hrel
    go_wp2_with fail
    go_ret
    exact ⟨rfl, rfl⟩
set_option maxHeartbeats 800000 in
theorem idx_put {g o n c : Nat} {es : List En} (q : Nat) (t i : List UInt8) (w : World) (hes : ES w g o es) (hg : g < w.heap.size) (hq : w.cell? ⟨q, 0, none⟩ = some (.string ⟨t.toArray⟩)) (hq1 : w.cell? ⟨q, 1, none⟩ = some (.string ⟨i.toArray⟩)) (hl : q < w.heap.size) (hn : n = es.length) (hnm : n ≤ 1099511627776) :
    Calls Try.prog 28 #[.slice (some ⟨g, o, none⟩) n c, .func (.func 21) #[] #[.pointer (some ⟨q, 0, none⟩)]] w fun e w' => (∃ r, e = .returned (.int .i64 r) ∧ IdxIs (fun e => e.t == t || e.i == i) es r) ∧ Below w.heap.size w w' := by
  subst hn
  go_enter Try.func28, Try.ntmps28
  go_wp2_with fail
  go_loopw [8] (fun x wr => ∃ k : Nat, k ≤ es.length ∧ x = .int .i64 k ∧ Hid (∀ j (hj : j < es.length), j < k → (fun e : En => e.t == t || e.i == i) es[j] = false) ∧ Below w.heap.size w wr) (fun x _ => es.length - (intOf x).toNat)
  case atStart => exact ⟨0, Nat.zero_le _, rfl, Lib.hid (fun j _ h => absurd h (Nat.not_lt_zero _)), Below.refl _ _⟩
  case round =>
    obtain ⟨k, hk, rfl, hno, hb⟩ := hrel
    by_cases hlt : k < es.length
    · obtain ⟨c0, c1, c2⟩ := (hes.below hg hb).en k hlt
      obtain ⟨e, he⟩ : ∃ e, es[k] = e := ⟨_, rfl⟩
      rw [he] at c0 c1 c2
      have hq' := (hb.cell (p := ⟨q, 0, none⟩) hl).trans hq
      have hq1x := (hb.cell (p := ⟨q, 1, none⟩) hl).trans hq1
      have hlr : q < wr.heap.size := Nat.lt_of_lt_of_le hl hb.size
      have hcall := put_c e q t i wr hq' hq1x hlr
      unfold En.v at hcall
      cases hf : (fun e : En => e.t == t || e.i == i) e with
      | true =>
        simp only at hf
        rw [hf] at hcall
        have HC := Lib.hid hcall
        have HF := Lib.hid hf
        clear hcall hf
        go_wp2_with fail
        refine HC.out.mono ?_
        rintro _ w' ⟨rfl, hb'⟩
        go_wp2_with fail
        go_ret
        exact ⟨⟨_, rfl, .inl ⟨k, rfl, hlt, by simp only [he]; exact HF.out, fun j hj => hno.out j (by omega) hj⟩⟩, below_then hb hb'⟩
      | false =>
        simp only at hf
        rw [hf] at hcall
        have HC := Lib.hid hcall
        have HN := Lib.hid (show ∀ j (hj : j < es.length), j < k + 1 → (fun e : En => e.t == t || e.i == i) es[j] = false from fun j hj h => by
          by_cases hjk : j = k
          · subst hjk
            simp only [he]
            exact hf
          · exact hno.out j hj (by omega))
        clear hcall hf
        go_wp2_with fail
        refine HC.out.mono ?_
        rintro _ w' ⟨rfl, hb'⟩
        go_wp2_with fail
        exact ⟨⟨k + 1, by omega, by go_num, HN, below_then hb hb'⟩, by simp [intOf]; omega⟩
    · obtain rfl : k = es.length := by omega
      go_wp2_with fail
      go_ret
      refine ⟨⟨_, rfl, .inr ⟨rfl, fun e he => ?_⟩⟩, hb⟩
      obtain ⟨j, hj, rfl⟩ := List.mem_iff_getElem.1 he
      exact hno.out j hj hj
end Go.Proofs.Ytfcopniihcaefaa
