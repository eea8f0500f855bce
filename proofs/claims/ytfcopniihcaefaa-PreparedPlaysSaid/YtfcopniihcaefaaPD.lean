/- prepared: find by each closure; slices.DeleteFunc. Of at most 2^40 entries. -/
import Derived.Test.YtfcopniihcaefaaPC
namespace Go.Proofs.Ytfcopniihcaefaa
open Go.RowKit
theorem below_grown {w w' : World} (h : Below w.heap.size w w') (row : Option Nat) : w.grownBy w' row := ⟨h.os, h.tape, h.output, h.size, fun k hk _ => h.block k hk⟩
theorem grown_then {a w w' : World} {row : Option Nat} (h : a.grownBy w row) (k : w.grownBy w' row) : a.grownBy w' row :=
  ⟨k.os.trans h.os, k.tape.trans h.tape, k.output.trans h.output, Nat.le_trans h.size k.size, fun i hi hr => (k.block i (Nat.lt_of_lt_of_le hi h.size) hr).trans (h.block i hi hr)⟩
theorem EB.en {w : World} {base g n cap : Nat} {es : List En} (h : EB w base g n cap es) (k : Nat) (hk : k < es.length) : w.cell? ⟨g, k * 3, none⟩ = some (.string ⟨es[k].t.toArray⟩) ∧ w.cell? ⟨g, k * 3 + 1, none⟩ = some (.string ⟨es[k].i.toArray⟩) ∧ w.cell? ⟨g, k * 3 + 2, none⟩ = some (.slice es[k].A es[k].n es[k].c) := by
  have := h.ents.en k hk
  rwa [Nat.zero_add] at this
/-- A list of entries, in a row of the call's own or nil. -/
def EL (w : World) (base : Nat) (v : Value) (es : List En) : Prop := w.ownsRow base 31 3 v es.length (es.flatMap enCells)
theorem EL.cases {w : World} {base : Nat} {v : Value} {es : List En} (h : EL w base v es) : (v = .slice none 0 0 ∧ es = []) ∨ ∃ g cap, v = .slice (some ⟨g, 0, none⟩) es.length cap ∧ EB w base g es.length cap es := by
  have h' := h
  rcases h'.2 with ⟨h1, h2⟩ | ⟨g, cap, cur, rfl, _⟩
  · exact .inl ⟨h1, List.length_eq_zero_iff.1 h2⟩
  · exact .inr ⟨g, cap, rfl, h⟩
theorem EB.el {w : World} {base g n cap : Nat} {es : List En} (h : EB w base g n cap es) : EL w base (.slice (some ⟨g, 0, none⟩) n cap) es := by
  have := h.len
  unfold EL
  rw [this]
  exact h
theorem idx_text_v {base : Nat} {v : Value} {es : List En} (q : Nat) (t : List UInt8) (w : World) (hes : EL w base v es) (hq : w.cell? ⟨q, 0, none⟩ = some (.string ⟨t.toArray⟩)) (hl : q < w.heap.size) (hnm : es.length ≤ 1099511627776) :
    Calls Try.prog 28 #[v, .func (.func 24) #[] #[.pointer (some ⟨q, 0, none⟩)]] w fun e w' => (∃ r, e = .returned (.int .i64 r) ∧ IdxIs (fun e => e.t == t) es r) ∧ Below w.heap.size w w' := by
  rcases hes.cases with ⟨rfl, rfl⟩ | ⟨g, cap, rfl, hb⟩
  · refine (idx_text_nil q none 0 w).mono ?_
    rintro _ _ ⟨rfl, rfl⟩
    exact ⟨⟨_, rfl, .inr ⟨rfl, fun e he => absurd he (by simp)⟩⟩, Below.refl _ _⟩
  · exact idx_text q t w hb.ents hb.lt hq hl rfl hnm
theorem find_text {base p : Nat} {m : Int} {v : Value} {es : List En} (q : Nat) (t : List UInt8) (w : World) (hp : Row w p 57 #[.int .i64 m, v]) (hes : EL w base v es) (hq : w.cell? ⟨q, 0, none⟩ = some (.string ⟨t.toArray⟩)) (hl : q < w.heap.size) (hnm : es.length ≤ 1099511627776) :
    Calls Try.prog 23 #[.pointer (some ⟨p, 0, none⟩), .func (.func 24) #[] #[.pointer (some ⟨q, 0, none⟩)]] w fun e w' => (∃ r, e = .returned (.int .i64 r) ∧ IdxIs (fun e => e.t == t) es r) ∧ Below w.heap.size w w' := by
  have c1 := hp.cell 1
  simp only [List.getElem?_toArray, List.getElem?_cons_zero, List.getElem?_cons_succ] at c1
  have hcall := Lib.hid (idx_text_v q t w hes hq hl hnm)
  clear hes hp hq
  go_enter Try.func23, Try.ntmps23
  go_wp2_with fail
  refine hcall.out.mono ?_
  rintro _ w' ⟨⟨r, rfl, hr⟩, hb⟩
  go_wp2_with fail
  go_ret
  exact ⟨⟨r, rfl, hr⟩, hb⟩
theorem find_text_none (q : Nat) (w : World) :
    Calls Try.prog 23 #[.pointer none, .func (.func 24) #[] #[.pointer (some ⟨q, 0, none⟩)]] w fun e w' => e = .returned (.int .i64 (-1)) ∧ w = w' := by
  go_enter Try.func23, Try.ntmps23
  go_wp2_with fail
  go_ret
  exact ⟨rfl, rfl⟩
theorem idx_id_v {base : Nat} {v : Value} {es : List En} (q : Nat) (t : List UInt8) (w : World) (hes : EL w base v es) (hq : w.cell? ⟨q, 0, none⟩ = some (.string ⟨t.toArray⟩)) (hl : q < w.heap.size) (hnm : es.length ≤ 1099511627776) :
    Calls Try.prog 28 #[v, .func (.func 25) #[] #[.pointer (some ⟨q, 0, none⟩)]] w fun e w' => (∃ r, e = .returned (.int .i64 r) ∧ IdxIs (fun e => e.i == t) es r) ∧ Below w.heap.size w w' := by
  rcases hes.cases with ⟨rfl, rfl⟩ | ⟨g, cap, rfl, hb⟩
  · refine (idx_id_nil q none 0 w).mono ?_
    rintro _ _ ⟨rfl, rfl⟩
    exact ⟨⟨_, rfl, .inr ⟨rfl, fun e he => absurd he (by simp)⟩⟩, Below.refl _ _⟩
  · exact idx_id q t w hb.ents hb.lt hq hl rfl hnm
theorem find_id {base p : Nat} {m : Int} {v : Value} {es : List En} (q : Nat) (t : List UInt8) (w : World) (hp : Row w p 57 #[.int .i64 m, v]) (hes : EL w base v es) (hq : w.cell? ⟨q, 0, none⟩ = some (.string ⟨t.toArray⟩)) (hl : q < w.heap.size) (hnm : es.length ≤ 1099511627776) :
    Calls Try.prog 23 #[.pointer (some ⟨p, 0, none⟩), .func (.func 25) #[] #[.pointer (some ⟨q, 0, none⟩)]] w fun e w' => (∃ r, e = .returned (.int .i64 r) ∧ IdxIs (fun e => e.i == t) es r) ∧ Below w.heap.size w w' := by
  have c1 := hp.cell 1
  simp only [List.getElem?_toArray, List.getElem?_cons_zero, List.getElem?_cons_succ] at c1
  have hcall := Lib.hid (idx_id_v q t w hes hq hl hnm)
  clear hes hp hq
  go_enter Try.func23, Try.ntmps23
  go_wp2_with fail
  refine hcall.out.mono ?_
  rintro _ w' ⟨⟨r, rfl, hr⟩, hb⟩
  go_wp2_with fail
  go_ret
  exact ⟨⟨r, rfl, hr⟩, hb⟩
theorem find_id_none (q : Nat) (w : World) :
    Calls Try.prog 23 #[.pointer none, .func (.func 25) #[] #[.pointer (some ⟨q, 0, none⟩)]] w fun e w' => e = .returned (.int .i64 (-1)) ∧ w = w' := by
  go_enter Try.func23, Try.ntmps23
  go_wp2_with fail
  go_ret
  exact ⟨rfl, rfl⟩
theorem idx_drop_v {base : Nat} {v : Value} {es : List En} (q : Nat) (t : List UInt8) (w : World) (hes : EL w base v es) (hq : w.cell? ⟨q, 0, none⟩ = some (.string ⟨t.toArray⟩)) (hl : q < w.heap.size) (hnm : es.length ≤ 1099511627776) :
    Calls Try.prog 28 #[v, .func (.func 26) #[] #[.pointer (some ⟨q, 0, none⟩)]] w fun e w' => (∃ r, e = .returned (.int .i64 r) ∧ IdxIs (fun e => e.i == t) es r) ∧ Below w.heap.size w w' := by
  rcases hes.cases with ⟨rfl, rfl⟩ | ⟨g, cap, rfl, hb⟩
  · refine (idx_drop_nil q none 0 w).mono ?_
    rintro _ _ ⟨rfl, rfl⟩
    exact ⟨⟨_, rfl, .inr ⟨rfl, fun e he => absurd he (by simp)⟩⟩, Below.refl _ _⟩
  · exact idx_drop q t w hb.ents hb.lt hq hl rfl hnm
theorem find_drop {base p : Nat} {m : Int} {v : Value} {es : List En} (q : Nat) (t : List UInt8) (w : World) (hp : Row w p 57 #[.int .i64 m, v]) (hes : EL w base v es) (hq : w.cell? ⟨q, 0, none⟩ = some (.string ⟨t.toArray⟩)) (hl : q < w.heap.size) (hnm : es.length ≤ 1099511627776) :
    Calls Try.prog 23 #[.pointer (some ⟨p, 0, none⟩), .func (.func 26) #[] #[.pointer (some ⟨q, 0, none⟩)]] w fun e w' => (∃ r, e = .returned (.int .i64 r) ∧ IdxIs (fun e => e.i == t) es r) ∧ Below w.heap.size w w' := by
  have c1 := hp.cell 1
  simp only [List.getElem?_toArray, List.getElem?_cons_zero, List.getElem?_cons_succ] at c1
  have hcall := Lib.hid (idx_drop_v q t w hes hq hl hnm)
  clear hes hp hq
  go_enter Try.func23, Try.ntmps23
  go_wp2_with fail
  refine hcall.out.mono ?_
  rintro _ w' ⟨⟨r, rfl, hr⟩, hb⟩
  go_wp2_with fail
  go_ret
  exact ⟨⟨r, rfl, hr⟩, hb⟩
theorem find_drop_none (q : Nat) (w : World) :
    Calls Try.prog 23 #[.pointer none, .func (.func 26) #[] #[.pointer (some ⟨q, 0, none⟩)]] w fun e w' => e = .returned (.int .i64 (-1)) ∧ w = w' := by
  go_enter Try.func23, Try.ntmps23
  go_wp2_with fail
  go_ret
  exact ⟨rfl, rfl⟩
/-- What the loop keeps. -/
structure KI (f : En → Bool) (es dk : List En) (i j : Nat) : Prop where
  len : dk.length = es.length
  lt : i < j
  le : j ≤ es.length
  cnt : i = ((es.take j).filter (fun e => !f e)).length
  take : dk.take i = (es.take j).filter (fun e => !f e)
  drop : dk.drop j = es.drop j
theorem KI.at_ {f : En → Bool} {es dk : List En} {i j : Nat} (h : KI f es dk i j) (hj : j < es.length) : dk[j]'(by rw [h.len]; exact hj) = es[j] := by
  have h1 : dk.drop j = es.drop j := h.drop
  rw [List.drop_eq_getElem_cons (by rw [h.len]; exact hj), List.drop_eq_getElem_cons hj] at h1
  exact (List.cons.inj h1).1
theorem KI.start {f : En → Bool} {es : List En} {k : Nat} (hk : k < es.length) (ht : f es[k] = true) (hno : ∀ j (hj : j < k), f (es[j]'(by omega)) = false) : KI f es es k (k + 1) := by
  have e1 : (es.take k).filter (fun e => !f e) = es.take k := by
    rw [List.filter_eq_self]
    intro a ha
    obtain ⟨j, hj, rfl⟩ := List.mem_iff_getElem.1 ha
    rw [List.getElem_take]
    rw [List.length_take] at hj
    simp [hno j (by omega)]
  have e2 : (es.take (k + 1)).filter (fun e => !f e) = es.take k := by
    rw [List.take_succ_eq_append_getElem hk, List.filter_append, e1]
    simp [ht]
  exact ⟨rfl, by omega, by omega, by rw [e2, List.length_take]; omega, e2.symm, rfl⟩
theorem KI.skip {f : En → Bool} {es dk : List En} {i j : Nat} (h : KI f es dk i j) (hj : j < es.length) (ht : f es[j] = true) : KI f es dk i (j + 1) := by
  have e2 : (es.take (j + 1)).filter (fun e => !f e) = (es.take j).filter (fun e => !f e) := by
    rw [List.take_succ_eq_append_getElem hj, List.filter_append]
    simp [ht]
  refine ⟨h.len, Nat.lt_succ_of_lt h.lt, hj, by rw [e2]; exact h.cnt, by rw [e2]; exact h.take, ?_⟩
  rw [← List.drop_drop, ← List.drop_drop, h.drop]
theorem KI.keep {f : En → Bool} {es dk : List En} {i j : Nat} (h : KI f es dk i j) (hj : j < es.length) (ht : f es[j] = false) : KI f es (dk.take i ++ [es[j]] ++ dk.drop (i + 1)) (i + 1) (j + 1) := by
  have e2 : (es.take (j + 1)).filter (fun e => !f e) = (es.take j).filter (fun e => !f e) ++ [es[j]] := by
    rw [List.take_succ_eq_append_getElem hj, List.filter_append]
    simp [ht]
  have hlt := h.lt
  have hlen := h.len
  have hti : (dk.take i).length = i := by rw [List.length_take]; omega
  refine ⟨by simp [List.length_take]; omega, by omega, hj, by rw [e2, List.length_append, ← h.cnt]; rfl, ?_, ?_⟩
  · rw [List.take_append_of_le_length (by simp [List.length_take]; omega), List.take_of_length_le (by simp [List.length_take]; omega), e2, h.take]
  · rw [List.drop_append, List.drop_of_length_le (by simp [List.length_take]; omega), List.nil_append, List.drop_drop, ← List.drop_drop (l := es), ← h.drop, List.drop_drop]
    congr 1
    simp [List.length_take]
    omega
end Go.Proofs.Ytfcopniihcaefaa
