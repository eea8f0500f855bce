/- prepared: entries in a row of their own: what stores, copies and clears in it come to; slices.Clone of keys; own. Of at most 2^40 keys. -/
import Derived.Test.YtfcopniihcaefaaPB
import Derived.Lib.SliceRun
import Derived.Lib.AppendZeros
import Derived.Deep.MidRow
import Derived.Deep.Onto
namespace Go.Proofs.Ytfcopniihcaefaa
open Go.RowKit
theorem own_typed {w w' : World} {base e size n : Nat} {v : Value} {xs : List Value} {g : Nat} {t : TypeId} {cs : Array Value} (h : w.ownsRow base e size v n xs) (hg : w.grownBy w' (some g)) (hr : w.heap[g]? = some (.cells cs t (0, 0))) (ht : t ≠ e) : w'.ownsRow base e size v n xs := by
  refine h.kept hg ?_
  rcases h.2 with ⟨rfl, _⟩ | ⟨k, cap, cur, rfl, _, hk, _⟩
  · exact .inl rfl
  · refine .inr (fun e => ?_)
    simp [Value.ownBlock] at e
    subst e
    rw [hr] at hk
    injection hk with hk
    injection hk with _ h2 _
    exact ht h2
theorem grown_typed {w w' : World} {base size n : Nat} {e : TypeId} {v : Value} {xs : List Value} (ho : w.ownsRow base e size v n xs) (hg : w.grownBy w' v.ownBlock) {k : Nat} {t : TypeId} {cs : Array Value} {f : Nat × Nat} (hk : w.heap[k]? = some (.cells cs t f)) (ht : t ≠ e) : w'.heap[k]? = w.heap[k]? := by
  refine hg.block k (Array.getElem?_eq_some_iff.1 hk).1 (fun x => ?_)
  rcases ho.2 with ⟨rfl, _⟩ | ⟨g, cap, cur, rfl, _, hh, _⟩
  · simp [Value.ownBlock] at x
  · simp [Value.ownBlock] at x
    subst x
    rw [hk] at hh
    injection hh with hh
    injection hh with _ h2 _
    exact ht h2
/-- Many cells stored, one behind the other. -/
theorem own_many {base g n cap size : Nat} {e : TypeId} : ∀ (vs : List Value) (o : Nat) (w : World) (xs : List Value), w.ownsRow base e size (.slice (some ⟨g, 0, none⟩) n cap) n xs → o + vs.length ≤ xs.length →
    (w.setCells g o vs).ownsRow base e size (.slice (some ⟨g, 0, none⟩) n cap) n (xs.take o ++ vs ++ xs.drop (o + vs.length)) ∧ w.grownBy (w.setCells g o vs) (some g)
  | [], o, w, xs, h, _ => by
    simp only [World.setCells, List.append_nil, List.length_nil, Nat.add_zero, List.take_append_drop]
    exact ⟨h, rfl, rfl, rfl, Nat.le_refl _, fun _ _ _ => rfl⟩
  | v :: r, o, w, xs, h, hl => by
    obtain ⟨h1, g1⟩ := h.stored o v
    have hl' : o + (r.length + 1) ≤ xs.length := by simpa using hl
    obtain ⟨h2, g2⟩ := own_many r (o + 1) _ _ h1 (by simp; omega)
    refine ⟨?_, g2.os.trans g1.os, g2.tape.trans g1.tape, g2.output.trans g1.output, Nat.le_trans g1.size g2.size, fun k hk hne => (g2.block k (Nat.lt_of_lt_of_le hk g1.size) hne).trans (g1.block k hk hne)⟩
    rw [World.setCells]
    have e : (xs.set o v).take (o + 1) ++ r ++ (xs.set o v).drop (o + 1 + r.length) = xs.take o ++ (v :: r) ++ xs.drop (o + (v :: r).length) := by
      rw [List.drop_set_of_lt (by omega), List.take_set, List.set_eq_take_append_cons_drop, if_pos (by simp; omega), List.take_take, List.drop_take]
      simp
      rw [show o + 1 + r.length = o + (r.length + 1) by omega]
    rw [e] at h2
    exact h2
theorem en_len (es : List En) : (es.flatMap enCells).length = es.length * 3 := by
  induction es with
  | nil => rfl
  | cons e es ih => rw [List.flatMap_cons, List.length_append, ih]; simp [enCells]; omega
theorem en_take : ∀ (es : List En) (k : Nat), (es.flatMap enCells).take (k * 3) = (es.take k).flatMap enCells
  | [], k => by simp
  | e :: es, 0 => by simp
  | e :: es, k + 1 => by
    rw [List.flatMap_cons, List.take_succ_cons, List.flatMap_cons, List.take_append, ← en_take es k]
    rw [show (k + 1) * 3 - (enCells e).length = k * 3 by simp [enCells]; omega, List.take_of_length_le (by simp [enCells]; omega)]
theorem en_drop : ∀ (es : List En) (k : Nat), (es.flatMap enCells).drop (k * 3) = (es.drop k).flatMap enCells
  | [], k => by simp
  | e :: es, 0 => by simp
  | e :: es, k + 1 => by
    rw [List.flatMap_cons, List.drop_succ_cons, List.drop_append, ← en_drop es k]
    rw [show (k + 1) * 3 - (enCells e).length = k * 3 by simp [enCells]; omega, List.drop_of_length_le (by simp [enCells]; omega), List.nil_append]
theorem en_at : ∀ (es : List En) (j : Nat) (h : j < es.length) (i : Nat), i < 3 → (es.flatMap enCells)[j * 3 + i]? = (enCells es[j])[i]?
  | [], j, h, _, _ => absurd h (by simp)
  | f :: fs, 0, _, i, hi => by
    rw [List.flatMap_cons, Nat.zero_mul, Nat.zero_add, List.getElem?_append_left (by simpa [enCells] using hi)]
    rfl
  | f :: fs, j + 1, h, i, hi => by
    have := en_at fs j (by simpa using h) i hi
    rw [List.flatMap_cons, List.getElem?_append_right (by simp [enCells]; omega)]
    rw [show (j + 1) * 3 + i - (enCells f).length = j * 3 + i by simp [enCells]; omega, this]
    rfl
/-- Entries in block g, a row of their own. -/
def EB (w : World) (base g n cap : Nat) (es : List En) : Prop := w.ownsRow base 31 3 (.slice (some ⟨g, 0, none⟩) n cap) n (es.flatMap enCells)
section
variable {w w' : World} {base g n cap : Nat} {es : List En}
theorem EB.len (h : EB w base g n cap es) : es.length = n := by
  have := h.1
  rw [en_len] at this
  omega
theorem EB.obj (h : EB w base g n cap es) : ∃ cur, w.heap[g]? = some (.cells cur 31 (0, 0)) ∧ base ≤ g ∧ n ≤ cap ∧ cap ≤ maxLen := by
  rcases h.2 with ⟨h', _⟩ | ⟨g', cap', cur, h', hb, hg, h1, h2, _⟩
  · simp at h'
  · simp only [Value.slice.injEq, Option.some.injEq, Addr.mk.injEq, and_true, true_and] at h'
    obtain ⟨rfl, rfl⟩ := h'
    exact ⟨cur, hg, hb, h1, h2⟩
theorem EB.lt (h : EB w base g n cap es) : g < w.heap.size := by
  obtain ⟨cur, hg, _⟩ := h.obj
  exact (Array.getElem?_eq_some_iff.1 hg).1
theorem EB.ents (h : EB w base g n cap es) : ES w g 0 es := by
  have hl := h.len
  have hx : ∀ j (hj : j < es.length) (i : Nat), i < 3 → w.cell? ⟨g, 0 + j * 3 + i, none⟩ = (enCells es[j])[i]? := fun j hj i hi => by
    rw [Nat.zero_add, ← en_at es j hj i hi]
    exact World.ownsRow.cellAt h (j * 3 + i) (by omega)
  exact ⟨fun j hj => hx j hj 0 (by omega), fun j hj => hx j hj 1 (by omega), fun j hj => hx j hj 2 (by omega)⟩
theorem EB.fro (h : EB w base g n cap es) (i : Nat) : w.frozen? ⟨g, i, none⟩ = false := World.ownsRow.frozenAt h i
theorem EB.is (h : EB w base g n cap es) (i : Nat) (hi : i < n * 3) : (w.cell? ⟨g, i, none⟩).isSome = true := by
  rw [World.ownsRow.cellAt h i hi, List.getElem?_eq_getElem (by rw [en_len, h.len]; exact hi)]
  rfl
theorem EB.lay (h : EB w base g n cap es) (k o : Nat) (xs : List En) (ho : o = k * 3) (hk : k + xs.length ≤ n) : EB (w.setCells g o (xs.flatMap enCells)) base g n cap (es.take k ++ xs ++ es.drop (k + xs.length)) ∧ w.grownBy (w.setCells g o (xs.flatMap enCells)) (some g) := by
  subst ho
  have hl := h.len
  obtain ⟨h1, h2⟩ := own_many (xs.flatMap enCells) (k * 3) w _ h (by rw [en_len, en_len, hl]; omega)
  refine ⟨?_, h2⟩
  rw [en_take, en_len, ← Nat.add_mul, en_drop] at h1
  unfold EB
  rw [List.flatMap_append, List.flatMap_append]
  exact h1
theorem EB.below {B : Nat} (h : EB w base g n cap es) (hb : Below B w w') (hg : g < B) : EB w' base g n cap es := by
  obtain ⟨h1, h2⟩ := h
  refine ⟨h1, ?_⟩
  rcases h2 with ⟨h', _⟩ | ⟨g', cap', cur, h', hgb, hk, hr⟩
  · simp at h'
  · simp only [Value.slice.injEq, Option.some.injEq, Addr.mk.injEq, and_true, true_and] at h'
    obtain ⟨rfl, rfl⟩ := h'
    exact .inr ⟨g, cap, cur, rfl, hgb, (hb.block g hg).trans hk, hr⟩
/-- The slice cut to its first m elements. -/
theorem EB.cut (h : EB w base g n cap es) (m : Nat) (hm : m ≤ n) : EB w base g m cap (es.take m) := by
  have hl := h.len
  rcases h.2 with ⟨h', _⟩ | ⟨g', cap', cur, h', hb, hg, h1, h2, h3, h4⟩
  · simp at h'
  · simp only [Value.slice.injEq, Option.some.injEq, Addr.mk.injEq, and_true, true_and] at h'
    obtain ⟨rfl, rfl⟩ := h'
    refine ⟨by rw [en_len, List.length_take]; omega, .inr ⟨g, cap, cur, rfl, hb, hg, by omega, h2, h3, ?_⟩⟩
    rw [← en_take, ← h4, List.take_take, show min (m * 3) (n * 3) = m * 3 by omega]
end
/-- The zero value. -/
def en0 : En := ⟨[], [], none, 0, 0, []⟩
theorem info_en : (Try.prog.info? 31).map (fun i => (i.zero, i.size, i.bytes)) = some (some en0.v, 3, 56) := by kernel_rfl
theorem info_en3 : ∃ i, Try.prog.info? 31 = some i ∧ i.zero = some en0.v ∧ i.size = 3 ∧ i.bytes = 56 := by
  have := info_en
  cases h : Try.prog.info? 31 with
  | none => rw [h] at this; cases this
  | some i =>
    rw [h] at this
    simp only [Option.map_some, Option.some.injEq, Prod.mk.injEq] at this
    exact ⟨i, rfl, this.1, this.2.1, this.2.2⟩
theorem en_one (es : List En) : ∀ v ∈ es.flatMap enCells, v.oneCell' = true := by
  intro v hv
  obtain ⟨e, _, hv⟩ := List.mem_flatMap.1 hv
  simp [enCells] at hv
  rcases hv with rfl | rfl | rfl <;> rfl
theorem ES.range {w : World} {g o : Nat} {es : List En} (h : ES w g o es) : ∀ j v, (es.flatMap enCells)[j]? = some v → w.cell? ⟨g, o + j, none⟩ = some v := fun j v hv => by
  have hj : j < (es.flatMap enCells).length := (List.getElem?_eq_some_iff.1 hv).1
  rw [en_len] at hj
  have hd : j / 3 < es.length := by omega
  obtain ⟨c0, c1, c2⟩ := h.en (j / 3) hd
  have he := en_at es (j / 3) hd (j % 3) (by omega)
  rw [show j / 3 * 3 + j % 3 = j by omega, hv] at he
  obtain h0 | h1 | h2 : j % 3 = 0 ∨ j % 3 = 1 ∨ j % 3 = 2 := by omega
  · rw [h0] at he
    simp [enCells] at he
    rw [show o + j = o + j / 3 * 3 by omega, c0, he]
  · rw [h1] at he
    simp [enCells] at he
    rw [show o + j = o + j / 3 * 3 + 1 by omega, c1, he]
  · rw [h2] at he
    simp [enCells] at he
    rw [show o + j = o + j / 3 * 3 + 2 by omega, c2, he]
/-- copy, from entries that lie anywhere. -/
theorem run_copy_en (w : World) (ty : TypeId) (b o dLen dCap g o2 sLen sCap : Nat) (es : List En) (hn : es.length = Nat.min sLen dLen) (hs : ES w g o2 es) (hc : ∀ j, j < es.length * 3 → (w.cell? ⟨b, o + j, none⟩).isSome = true) (hf : ∀ j, j < es.length * 3 → w.frozen? ⟨b, o + j, none⟩ = false) :
    (Builtin.copy_ #[48, 48] ty #[.slice (some ⟨b, o, none⟩) dLen dCap, .slice (some ⟨g, o2, none⟩) sLen sCap]).run Try.prog w = .ok (goInt es.length) (w.setCells b o (es.flatMap enCells)) := by
  have hl := run_loadCells_list (P := Try.prog) w ⟨g, o2, none⟩ (es.flatMap enCells) (fun j v hv => by rw [add_none]; exact hs.range j v hv)
  have hst := run_storeCells_cells (P := Try.prog) b o (es.flatMap enCells) 0 w (by rw [en_len]; simpa using hc) (by rw [en_len]; simpa using hf) (en_one es)
  obtain ⟨i, hi, _, hsz, _⟩ := info_en3
  rw [en_len] at hl
  simp only [Nat.add_zero] at hst
  simp [Builtin.copy_, run_underlying Try.underlying48, Builtin.lenOf, Builtin.firstCells, sizeOf, typeInfo, hi, hsz, ← hn, hl, hst]
theorem zero_en (n : Nat) : (Builtin.zeroCells en0.v.cells n).toList = (List.replicate n en0).flatMap enCells := by
  apply List.ext_getElem?
  intro j
  have hs : (Builtin.zeroCells en0.v.cells n).toList.length = n * 3 := by simp [Builtin.zeroCells, En.v, Value.cells]
  by_cases hj : j < n * 3
  · have hd : j / 3 < (List.replicate n en0).length := by simp; omega
    have he := en_at (List.replicate n en0) (j / 3) hd (j % 3) (by omega)
    rw [show j / 3 * 3 + j % 3 = j by omega, List.getElem_replicate] at he
    rw [he]
    simp [Builtin.zeroCells, En.v, Value.cells]
    obtain h0 | h1 | h2 : j % 3 = 0 ∨ j % 3 = 1 ∨ j % 3 = 2 := by omega
    · simp [h0, enCells, hj]
    · simp [h1, enCells, hj]
    · simp [h2, enCells, hj]
  · rw [List.getElem?_eq_none (by omega), List.getElem?_eq_none (by rw [en_len]; simp; omega)]
/-- clear. -/
theorem run_clear_en (w : World) (ty : TypeId) (b o n c : Nat) (hc : ∀ j, j < n * 3 → (w.cell? ⟨b, o + j, none⟩).isSome = true) (hf : ∀ j, j < n * 3 → w.frozen? ⟨b, o + j, none⟩ = false) :
    (Builtin.clear_ #[48] ty #[.slice (some ⟨b, o, none⟩) n c]).run Try.prog w = .ok (.tuple #[]) (w.setCells b o ((List.replicate n en0).flatMap enCells)) := by
  obtain ⟨i, hi, hz, hsz, _⟩ := info_en3
  have hst := run_storeCells_cells (P := Try.prog) b o ((List.replicate n en0).flatMap enCells) 0 w (by rw [en_len]; simpa using hc) (by rw [en_len]; simpa using hf) (en_one _)
  simp only [Nat.add_zero] at hst
  have hzc := zero_en n
  cases n with
  | zero => simp [Builtin.clear_, run_underlying Try.underlying48, World.setCells]
  | succ m => simp [Builtin.clear_, run_underlying Try.underlying48, zeroValue, typeInfo, hi, hz, hzc, hst]
theorem info_u16 : (Try.prog.info? 52).map (fun i => (i.zero, i.size, i.bytes)) = some (some (.int .u16 0), 1, 2) := by kernel_rfl
theorem info_u163 : ∃ i, Try.prog.info? 52 = some i ∧ i.zero = some (.int .u16 0) ∧ i.size = 1 ∧ i.bytes = 2 := by
  have := info_u16
  cases h : Try.prog.info? 52 with
  | none => rw [h] at this; cases this
  | some i =>
    rw [h] at this
    simp only [Option.map_some, Option.some.injEq, Prod.mk.injEq] at this
    exact ⟨i, rfl, this.1, this.2.1, this.2.2⟩
/-- Keys as cells. -/
def kv (ks : List Nat) : List Value := ks.map fun (z : Nat) => Value.int .u16 (z : Int)
/-- An entry's keys, in a row of their own. -/
structure KO (w : World) (base : Nat) (e : En) : Prop where
  row : w.ownsRow base 52 1 (.slice e.A e.n e.c) e.n (kv e.ks)
  rng : ∀ z ∈ e.ks, z < 65536
theorem KO.us {w : World} {base : Nat} {e : En} (h : KO w base e) : US w w.heap.size e.A e.n e.c e.ks := by
  have hl : e.ks.length = e.n := by have := h.row.1; simpa [kv] using this
  have hr := h.row
  rcases hr.2 with ⟨hv, hn⟩ | ⟨g, cap, cur, hv, _, hk, hc, hm, hs, ht⟩
  · injection hv with h1 h2 h3
    exact ⟨hl, by omega, by rw [h3]; exact Nat.zero_le _, h.rng, fun _ => h3, fun hx => absurd hx (by omega)⟩
  · injection hv with h1 h2 h3
    rw [h1, h3] at hr
    refine ⟨hl, by omega, by omega, h.rng, fun hx => (by rw [hx] at h1; cases h1), fun hx => ⟨g, 0, h1, (Array.getElem?_eq_some_iff.1 hk).1, fun j hj => ?_⟩⟩
    have h4 := hr.cellAt j (by omega)
    unfold kv at h4
    rw [List.getElem?_map, List.getElem?_eq_getElem hj] at h4
    rw [Nat.zero_add]
    exact h4
theorem KO.below {w w' : World} {base : Nat} {e : En} (h : KO w base e) (hb : Below w.heap.size w w') : KO w' base e := ⟨own_below h.row hb, h.rng⟩
theorem KO.typed {w w' : World} {base g : Nat} {t : TypeId} {cs : Array Value} {e : En} (h : KO w base e) (hg : w.grownBy w' (some g)) (hr : w.heap[g]? = some (.cells cs t (0, 0))) (ht : t ≠ 52) : KO w' base e := ⟨own_typed h.row hg hr ht, h.rng⟩
theorem eql_nil16 (W : World) (a : Option Addr) (n c : Nat) : (binOp .eql 29 (.slice a n c) (.slice none 0 0)).run Try.prog W = .ok (.bool a.isNone) W :=
  Lib.run_eql_slice_nil (P := Try.prog) W 29 52 a n c 0 0 Try.underlying29
set_option maxHeartbeats 400000 in
theorem clone16 {A : Option Addr} {n c : Nat} {ks : List Nat} (w : World) (hl : US w w.heap.size A n c ks) (hn : n ≤ 1099511627776) :
    Calls Try.prog 29 #[.slice A n c] w fun e w' => ∃ A' c', e = .returned (.slice A' n c') ∧ w'.ownsRow w.heap.size 52 1 (.slice A' n c') n (kv ks) ∧ Below w.heap.size w w' := by
  obtain ⟨i0, hi, hz0, hz1, hz2⟩ := info_u163
  have hnil := eql_nil16
  have hkl := hl.len
  cases A with
  | none =>
    obtain rfl : c = 0 := hl.nil rfl
    obtain rfl : n = 0 := by have := hl.cap; omega
    obtain rfl : ks = [] := List.length_eq_zero_iff.1 hkl
    go_enter Try.func29, Try.ntmps29
    go_wp2_with fail
    go_ret
    exact ⟨_, _, rfl, World.ownsRow_nil _ _ _ _, Below.refl _ _⟩
  | some a =>
    have hnews : ∀ j u, (kv ks)[j]? = some u → (w.alloc (.cells #[] 52)).cell? (a.add j) = some u := fun j u hj => by
      have hjl : j < (kv ks).length := (List.getElem?_eq_some_iff.1 hj).1
      have hjk : j < ks.length := by simpa [kv] using hjl
      obtain ⟨g, o, hA, hg, hp⟩ := hl.at_ (by omega)
      cases hA
      rw [add_none, (below_new (Below.refl w.heap.size w) _).cell (p := ⟨g, o + j, none⟩) hg, hp j hjk]
      unfold kv at hj
      rw [List.getElem?_map, List.getElem?_eq_getElem hjk] at hj
      exact hj
    obtain ⟨v', w', hrun, hown, hgr, hnn⟩ := run_append_own (P := Try.prog) (w.alloc (.cells #[] 52)) w.heap.size 29 29 52 i0 (.int .u16 0) 1 2 Try.underlying29 hi hz0 hz1 hz2 rfl (by omega) _ 0 [] ((Row.new w 52 #[]).owns (Nat.le_refl _) (Nat.le_refl _) (Nat.zero_le _)) a n c (kv ks) (by simp [kv, hkl]) hnews (by intro u hu; unfold kv at hu; obtain ⟨z, _, rfl⟩ := List.mem_map.1 hu; rfl) (by unfold maxLen; omega) (by omega) (by simp)
    have HR := Lib.hid hrun
    clear hrun hnews
    go_enter Try.func29, Try.ntmps29
    go_wp2_with (at_builtin; refine Lib.wpList_append_run _ rfl _ _ _ _ rfl _ _ rfl rfl _ _ HR.out ?_)
    go_ret
    simp only [Nat.zero_add, List.nil_append] at hown
    have hform : ∃ A' c', v' = .slice A' n c' := by
      rcases hown.2 with ⟨h1, h2⟩ | ⟨g, cap, cur, h1, _⟩
      · exact ⟨none, 0, by rw [h1, h2]⟩
      · exact ⟨_, _, h1⟩
    obtain ⟨A', c', rfl⟩ := hform
    refine ⟨A', c', rfl, hown, (below_new (Below.refl _ _) _).grown hgr (by simp) ?_⟩
    intro k hk
    simp [Value.ownBlock] at hk
    omega
theorem US.then_ {w w' : World} {n c : Nat} {A : Option Addr} {zs : List Nat} (h : US w w.heap.size A n c zs) (hb : Below w.heap.size w w') : US w' w'.heap.size A n c zs := (h.below hb).more hb.size
theorem own_far {w : World} {base e size n : Nat} {v : Value} {xs : List Value} (h : w.ownsRow base e size v n xs) {p : Addr} (hp : p.block < base) (u : Value) : (w.setCell p u).ownsRow base e size v n xs := ownsRow_setCell_below h hp u
set_option maxHeartbeats 400000 in
/-- An entry of its own. -/
theorem own_any (e : En) (w : World) (hus : US w w.heap.size e.A e.n e.c e.ks) (hn : e.n ≤ 1099511627776) :
    Calls Try.prog 22 #[e.v] w fun r w' => ∃ e' : En, r = .returned e'.v ∧ e'.t = e.t ∧ e'.i = e.i ∧ e'.ks = e.ks ∧ e'.n = e.n ∧ KO w' w.heap.size e' ∧ Below w.heap.size w w' := by
  obtain ⟨t, i, A, n, c, ks⟩ := e
  have hrng := hus.rng
  unfold En.v
  simp only at hus hn hrng ⊢
  have hus2 := hus.then_ (below_new (below_new (Below.refl w.heap.size w) (.cells #[.string ⟨t.toArray⟩, .string ⟨i.toArray⟩, .slice A n c] 31)) (.cells #[.string ⟨[].toArray⟩, .string ⟨[].toArray⟩, .slice none 0 0] 31))
  have HU := Lib.hid hus2
  have hr0 := (Row.new w 31 #[.string ⟨t.toArray⟩, .string ⟨i.toArray⟩, .slice A n c]).alloc (.cells #[.string ⟨[].toArray⟩, .string ⟨[].toArray⟩, .slice none 0 0] 31)
  have hr1 := Row.new (w.alloc (.cells #[.string ⟨t.toArray⟩, .string ⟨i.toArray⟩, .slice A n c] 31)) 31 #[.string ⟨[].toArray⟩, .string ⟨[].toArray⟩, .slice none 0 0]
  have hws : (w.alloc (.cells #[.string ⟨t.toArray⟩, .string ⟨i.toArray⟩, .slice A n c] 31)).heap.size = w.heap.size + 1 := by simp
  rw [hws] at hr1
  have HR0 := Lib.hid hr0
  have HR1 := Lib.hid hr1
  have hB2 := below_new (below_new (Below.refl w.heap.size w) (.cells #[.string ⟨t.toArray⟩, .string ⟨i.toArray⟩, .slice A n c] 31)) (.cells #[.string ⟨[].toArray⟩, .string ⟨[].toArray⟩, .slice none 0 0] 31)
  have HB2 := Lib.hid hB2
  clear hus hus2 hr0 hr1 hws hB2
  go_enter Try.func22, Try.ntmps22
  go_wp2_with fail
  refine (clone16 _ HU.out hn).mono ?_
  rintro _ w2 ⟨A', c', rfl, hown, hb2⟩
  have hr0 := HR0.out.below hb2 (by simp; omega)
  have hr1 := HR1.out.below hb2 (by simp)
  have d0 := hr0.cell 0
  have d1 := hr0.cell 1
  have d2 := hr0.cell 2
  have e0 := hr1.cell 0
  have e1 := hr1.cell 1
  have e2 := hr1.cell 2
  have f0 := hr0.frozen 2
  have g0 := hr1.frozen 0
  have g1 := hr1.frozen 1
  have g2 := hr1.frozen 2
  have hr1a := hr1.far (p := ⟨w.heap.size, 2, none⟩) (by simp) (.slice A' n c')
  have hr1b := hr1a.set_ 0 (.string ⟨t.toArray⟩)
  have hr1c := hr1b.set_ 1 (.string ⟨i.toArray⟩)
  have hr1d := hr1c.set_ 2 (.slice A' n c')
  have k0 := hr1b.cell 0
  have k1 := hr1c.cell 1
  have k2 := hr1d.cell 2
  simp only [List.setIfInBounds_toArray, List.set_cons_zero, List.set_cons_succ, List.getElem?_toArray, List.getElem?_cons_zero, List.getElem?_cons_succ] at d0 d1 d2 e0 e1 e2 k0 k1 k2
  have HO := Lib.hid hown
  have HB := Lib.hid (below_then HB2.out hb2)
  clear hown hr0 hr1 hr1a hr1b hr1c hr1d hb2
  go_wp2_with fail
  refine bodyPost_ret (by simp [results, Try.results22, go_sem, k0, k1, k2]; try rfl) rfl ?_
  refine ⟨⟨t, i, A', n, c', ks⟩, rfl, rfl, rfl, rfl, rfl, ⟨?_, hrng⟩, ?_⟩
  · exact (own_far (own_far (own_far (own_far HO.out (by simp; omega) _) (by simp) _) (by simp) _) (by simp) _).mono (by simp; omega)
  · exact (((HB.out.setCell (by simp) _).setCell (by simp) _).setCell (by simp) _).setCell (by simp) _
end Go.Proofs.Ytfcopniihcaefaa
