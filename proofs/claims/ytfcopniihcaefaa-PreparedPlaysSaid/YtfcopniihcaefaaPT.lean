/- prepared: the document's entries in memory: rows of its own type; entry; Same. Of at most 2^40 keys. -/
import Derived.Test.YtfcopniihcaefaaPR
namespace Go.Proofs.Ytfcopniihcaefaa
open Go.RowKit
/-- Keys that lie in blocks of which F holds. -/
structure UF (F : Nat → Prop) (w : World) (A : Option Addr) (n c : Nat) (zs : List Nat) : Prop where
  len : zs.length = n
  cap : n ≤ c
  max : c ≤ maxLen
  rng : ∀ z ∈ zs, z < 65536
  nil : A = none → c = 0
  at_ : 0 < n → ∃ g o, A = some ⟨g, o, none⟩ ∧ F g ∧ ∀ i (h : i < zs.length), w.cell? ⟨g, o + i, none⟩ = some (.int .u16 (zs[i] : Int))
theorem cell_same {w w' : World} {g i : Nat} (h : w'.heap[g]? = w.heap[g]?) : w'.cell? ⟨g, i, none⟩ = w.cell? ⟨g, i, none⟩ := by
  simp [World.cell?, h]
theorem UF.kept {F F' : Nat → Prop} {w w' : World} {A : Option Addr} {n c : Nat} {zs : List Nat} (h : UF F w A n c zs) (hk : ∀ g, F g → F' g ∧ w'.heap[g]? = w.heap[g]?) : UF F' w' A n c zs :=
  ⟨h.len, h.cap, h.max, h.rng, h.nil, fun hn => by
    obtain ⟨g, o, e, hg, hp⟩ := h.at_ hn
    exact ⟨g, o, e, (hk g hg).1, fun i hi => (cell_same (hk g hg).2).trans (hp i hi)⟩⟩
theorem UF.us {F : Nat → Prop} {w : World} {A : Option Addr} {n c : Nat} {zs : List Nat} (h : UF F w A n c zs) {B : Nat} (hF : ∀ g, F g → g < B) : US w B A n c zs :=
  ⟨h.len, h.cap, h.max, h.rng, h.nil, fun hn => by
    obtain ⟨g, o, e, hg, hp⟩ := h.at_ hn
    exact ⟨g, o, e, hF g hg, hp⟩⟩
theorem US.uf {F : Nat → Prop} {w : World} {B : Nat} {A : Option Addr} {n c : Nat} {zs : List Nat} (h : US w B A n c zs) (hF : ∀ g, g < B → F g) : UF F w A n c zs :=
  ⟨h.len, h.cap, h.max, h.rng, h.nil, fun hn => by
    obtain ⟨g, o, e, hg, hp⟩ := h.at_ hn
    exact ⟨g, o, e, hF g hg, hp⟩⟩
theorem KO.uf {F : Nat → Prop} {w : World} {base : Nat} {e : En} (h : KO w base e) (hF : ∀ g, base ≤ g → g < w.heap.size → F g) : UF F w e.A e.n e.c e.ks := by
  have hu := h.us
  refine ⟨hu.len, hu.cap, hu.max, hu.rng, hu.nil, fun hn => ?_⟩
  obtain ⟨g, h1, h2, h3, h4, _⟩ := h.at_ hn
  exact ⟨g, 0, h1, hF g h2 h3, fun i hi => by rw [Nat.zero_add]; exact h4 i hi⟩
/-- Entries that lie in blocks of which F holds. -/
structure RL (F : Nat → Prop) (w : World) (A : Option Addr) (n c : Nat) (es : List En) : Prop where
  len : es.length = n
  cap : n ≤ c
  max : c ≤ maxLen
  at_ : 0 < n → ∃ g o, A = some ⟨g, o, none⟩ ∧ F g ∧ ES w g o es
  us : ∀ e ∈ es, UF F w e.A e.n e.c e.ks
theorem RL.kept {F F' : Nat → Prop} {w w' : World} {A : Option Addr} {n c : Nat} {es : List En} (h : RL F w A n c es) (hk : ∀ g, F g → F' g ∧ w'.heap[g]? = w.heap[g]?) : RL F' w' A n c es :=
  ⟨h.len, h.cap, h.max, fun hn => by
    obtain ⟨g, o, e, hg, hp⟩ := h.at_ hn
    exact ⟨g, o, e, (hk g hg).1, ⟨fun k hk' => (cell_same (hk g hg).2).trans (hp.t k hk'), fun k hk' => (cell_same (hk g hg).2).trans (hp.i k hk'), fun k hk' => (cell_same (hk g hg).2).trans (hp.k k hk')⟩⟩, fun e he => (h.us e he).kept hk⟩
/-- A list of the document's entries, in a row of the call's own or nil. -/
def ER (w : World) (base : Nat) (v : Value) (es : List En) : Prop := w.ownsRow base 36 3 v es.length (es.flatMap enCells)
theorem info_re : (Try.prog.info? 36).map (fun i => (i.zero, i.size, i.bytes)) = some (some en0.v, 3, 56) := by kernel_rfl
theorem info_re3 : ∃ i, Try.prog.info? 36 = some i ∧ i.zero = some en0.v ∧ i.size = 3 ∧ i.bytes = 56 := by
  have := info_re
  cases h : Try.prog.info? 36 with
  | none => rw [h] at this; cases this
  | some i =>
    rw [h] at this
    simp only [Option.map_some, Option.some.injEq, Prod.mk.injEq] at this
    exact ⟨i, rfl, this.1, this.2.1, this.2.2⟩
/-- Many entries appended, from where they lie. -/
theorem ER.run_many {w : World} {base g o n c : Nat} {v : Value} {es xs : List En} (h : ER w base v es) (hx : xs.length = n) (hes : ES w g o xs) (hb : base ≤ w.heap.size) (hn : es.length ≤ 549755813888) (hn2 : n ≤ 549755813888) (ty : TypeId) :
    ∃ v' w', (Builtin.append_ #[26, 26] ty #[v, .slice (some ⟨g, o, none⟩) n c]).run Try.prog w = .ok v' w' ∧ ER w' base v' (es ++ xs) ∧ w.grownBy w' v.ownBlock := by
  obtain ⟨i, hi, hz, hsz, hby⟩ := info_re3
  obtain ⟨v', w', h1, hown, hgr, _⟩ := run_append_own (P := Try.prog) w base 26 ty 36 i en0.v 3 56 Try.underlying26 hi hz hsz hby rfl (by omega) v es.length (es.flatMap enCells) h ⟨g, o, none⟩ n c (xs.flatMap enCells) (by rw [en_len, hx])
    (fun j u hj => by rw [add_none]; exact hes.range j u hj) (en_one xs) (by unfold maxLen; omega) (by omega) hb
  refine ⟨v', w', h1, ?_, hgr⟩
  unfold ER
  rw [List.length_append, hx, List.flatMap_append]
  exact hown
theorem ER.run_snoc {w : World} {base g : Nat} {v : Value} {es : List En} (h : ER w base v es) (e : En) (hg : Row w g 36 (enCells e).toArray) (hb : base ≤ w.heap.size) (hn : es.length ≤ 549755813888) (ty : TypeId) :
    ∃ v' w', (Builtin.append_ #[26, 26] ty #[v, .slice (some ⟨g, 0, none⟩) 1 1]).run Try.prog w = .ok v' w' ∧ ER w' base v' (es ++ [e]) ∧ w.grownBy w' v.ownBlock :=
  h.run_many (xs := [e]) (g := g) (o := 0) (n := 1) (c := 1) rfl ⟨fun k hk => by
    obtain rfl : k = 0 := by simpa using hk
    rw [hg.cell]; rfl, fun k hk => by
    obtain rfl : k = 0 := by simpa using hk
    rw [hg.cell]; rfl, fun k hk => by
    obtain rfl : k = 0 := by simpa using hk
    rw [hg.cell]; rfl⟩ hb hn (by omega) ty
theorem ER.form {w : World} {base : Nat} {v : Value} {es : List En} (h : ER w base v es) : ∃ A c, v = .slice A es.length c ∧ es.length ≤ c ∧ c ≤ maxLen ∧ (A = none → c = 0) ∧ (0 < es.length → ∃ g, A = some ⟨g, 0, none⟩ ∧ base ≤ g ∧ g < w.heap.size ∧ ES w g 0 es) := by
  have hr : w.ownsRow base 36 3 v es.length (es.flatMap enCells) := h
  rcases hr.2 with ⟨hv, hn⟩ | ⟨g, cap, cur, hv, hb, hk, hc, hm, hs, ht⟩
  · exact ⟨none, 0, by rw [hv, hn], by omega, Nat.zero_le _, fun _ => rfl, fun h0 => by omega⟩
  · subst hv
    refine ⟨_, _, rfl, hc, hm, fun e => (by cases e), fun _ => ⟨g, rfl, hb, (Array.getElem?_eq_some_iff.1 hk).1, ?_⟩⟩
    have hx : ∀ j (hj : j < es.length) (i : Nat), i < 3 → w.cell? ⟨g, 0 + j * 3 + i, none⟩ = (enCells es[j])[i]? := fun j hj i hi => by
      rw [Nat.zero_add, ← en_at es j hj i hi]
      exact World.ownsRow.cellAt hr (j * 3 + i) (by omega)
    exact ⟨fun j hj => hx j hj 0 (by omega), fun j hj => hx j hj 1 (by omega), fun j hj => hx j hj 2 (by omega)⟩
theorem ER.below {w w' : World} {base : Nat} {v : Value} {es : List En} (h : ER w base v es) (hb : Below w.heap.size w w') : ER w' base v es := own_below h hb
/-- Cut to its first k entries. -/
theorem ER.cut {w : World} {base n c : Nat} {A : Option Addr} {es : List En} (h : ER w base (.slice A n c) es) (k : Nat) (hk : k ≤ es.length) (h0 : 0 < es.length) : ER w base (.slice A k c) (es.take k) := by
  have hr : w.ownsRow base 36 3 (.slice A n c) es.length (es.flatMap enCells) := h
  rcases hr.2 with ⟨h', h1⟩ | ⟨g', cap', cur, h', hb, hg, h1, h2, h3, h4⟩
  · omega
  · injection h' with e1 e2 e3
    subst e1
    subst e3
    refine ⟨by rw [en_len], .inr ⟨g', c, cur, by rw [List.length_take]; congr 1; omega, hb, hg, by rw [List.length_take]; omega, h2, h3, ?_⟩⟩
    rw [List.length_take, show min k es.length = k by omega, ← en_take, ← h4, List.take_take, show min (k * 3) (es.length * 3) = k * 3 by omega]
set_option maxHeartbeats 400000 in
theorem entry_any (t i : List UInt8) {A : Option Addr} {n c : Nat} {ks : List Nat} (w : World) (hl : US w w.heap.size A n c ks) (hn : n ≤ 1099511627776) :
    Calls Try.prog 11 #[.agg #[.string ⟨t.toArray⟩, .string ⟨i.toArray⟩, .slice A n c]] w fun r w' => ∃ A' c', r = .returned (.agg #[.string ⟨t.toArray⟩, .string ⟨i.toArray⟩, .slice A' n c']) ∧ KO w' w.heap.size ⟨t, i, A', n, c', ks⟩ ∧ Below w.heap.size w w' := by
  obtain ⟨i0, hi, hz0, hz1, hz2⟩ := info_u163
  have hrng := hl.rng
  have hkl := hl.len
  have b1 := below_new (Below.refl w.heap.size w) (.cells #[.string ⟨t.toArray⟩, .string ⟨i.toArray⟩, .slice A n c] 31)
  have b2 := below_new b1 (.cells #[.string ⟨[].toArray⟩, .string ⟨[].toArray⟩, .slice none 0 0] 36)
  obtain ⟨w2, hw2⟩ : ∃ w2, w2 = (w.alloc (.cells #[.string ⟨t.toArray⟩, .string ⟨i.toArray⟩, .slice A n c] 31)).alloc (.cells #[.string ⟨[].toArray⟩, .string ⟨[].toArray⟩, .slice none 0 0] 36) := ⟨_, rfl⟩
  have hr0 := (Row.new w 31 #[.string ⟨t.toArray⟩, .string ⟨i.toArray⟩, .slice A n c]).alloc (.cells #[.string ⟨[].toArray⟩, .string ⟨[].toArray⟩, .slice none 0 0] 36)
  have hr1 := Row.new (w.alloc (.cells #[.string ⟨t.toArray⟩, .string ⟨i.toArray⟩, .slice A n c] 31)) 36 #[.string ⟨[].toArray⟩, .string ⟨[].toArray⟩, .slice none 0 0]
  rw [Row.lt_new] at hr1
  rw [← hw2] at b2 hr0 hr1
  have hl2 := hl.then_ b2
  have hsz2 : w2.heap.size = w.heap.size + 2 := by rw [hw2]; simp
  have HR0 := Lib.hid hr0
  have HR1 := Lib.hid hr1
  have HB2 := Lib.hid b2
  obtain ⟨x0, x1, x2, x3⟩ := hr0.three
  have hone : ∀ u ∈ kv ks, u.oneCell' = true := by intro u hu; unfold kv at hu; obtain ⟨z, _, rfl⟩ := List.mem_map.1 hu; rfl
  have key : ∀ (v' : Value) (w' : World), (Builtin.append_ #[29, 29] 29 #[.slice none 0 0, .slice A n c]).run Try.prog w2 = .ok v' w' → w'.ownsRow w.heap.size 52 1 v' n (kv ks) → Below w2.heap.size w2 w' → Calls Try.prog 11 #[.agg #[.string ⟨t.toArray⟩, .string ⟨i.toArray⟩, .slice A n c]] w fun r w' => ∃ A' c', r = .returned (.agg #[.string ⟨t.toArray⟩, .string ⟨i.toArray⟩, .slice A' n c']) ∧ KO w' w.heap.size ⟨t, i, A', n, c', ks⟩ ∧ Below w.heap.size w w' := by
    intro v' w' hrun hown hbl
    have hform : ∃ A' c', v' = .slice A' n c' := by
      rcases hown.2 with ⟨h1, h2⟩ | ⟨g, cap, cur, h1, _⟩
      · exact ⟨none, 0, by rw [h1, h2]⟩
      · exact ⟨_, _, h1⟩
    obtain ⟨A', c', rfl⟩ := hform
    have hr0' := hr0.below hbl hr0.lt
    have hr1' := hr1.below hbl hr1.lt
    obtain ⟨y0, y1, y2, y3⟩ := hr0'.three
    obtain ⟨d0, d1, d2, d3⟩ := hr1'.three
    have g0 := hr1'.frozen 0
    have g1 := hr1'.frozen 1
    have g2 := hr1'.frozen 2
    obtain ⟨k0, k1, k2, _⟩ := (hr1'.put3 (.string ⟨t.toArray⟩) (.string ⟨i.toArray⟩) (.slice A' n c')).three
    have HK := Lib.hid (show KO (((w'.setCell ⟨w.heap.size + 1, 0, none⟩ (.string ⟨t.toArray⟩)).setCell ⟨w.heap.size + 1, 1, none⟩ (.string ⟨i.toArray⟩)).setCell ⟨w.heap.size + 1, 2, none⟩ (.slice A' n c')) w.heap.size ⟨t, i, A', n, c', ks⟩ from by
      have h0 : KO w' w.heap.size ⟨t, i, A', n, c', ks⟩ := ⟨hown, hrng⟩
      exact ((h0.typed (set_grown _ _ 0 _) hr1' (by decide)).typed (set_grown _ _ 1 _) (hr1'.set_ 0 _) (by decide)).typed (set_grown _ _ 2 _) ((hr1'.set_ 0 _).set_ 1 _) (by decide))
    have HB := Lib.hid ((((below_then b2 hbl).setCell (p := ⟨w.heap.size + 1, 0, none⟩) (by simp) (.string ⟨t.toArray⟩)).setCell (p := ⟨w.heap.size + 1, 1, none⟩) (by simp) (.string ⟨i.toArray⟩)).setCell (p := ⟨w.heap.size + 1, 2, none⟩) (by simp) (.slice A' n c'))
    have HRUN := Lib.hid hrun
    clear hr0 hr1 hr0' hr1' hrun hown hbl hl hl2 b1 b2 hone
    go_enter Try.func11, Try.ntmps11
    subst hw2
    go_wp2_with (at_builtin; refine Lib.wpList_append_run _ rfl _ _ _ _ rfl _ _ rfl rfl _ _ HRUN.out ?_)
    refine bodyPost_ret (by simp [results, Try.results11, go_sem, k0, k1, k2]; try rfl) rfl ?_
    exact ⟨A', c', rfl, HK.out, HB.out⟩
  cases A with
  | none =>
    obtain rfl : c = 0 := hl.nil rfl
    obtain rfl : n = 0 := by have := hl.cap; omega
    obtain rfl : ks = [] := List.length_eq_zero_iff.1 hkl
    have hrun : (Builtin.append_ #[29, 29] 29 #[.slice none 0 0, .slice none 0 0]).run Try.prog w2 = .ok (.slice none 0 0) w2 := by
      simp [Builtin.append_, run_underlying Try.underlying29, sizeOf, typeInfo, hi, hz1, Builtin.lenOf, Builtin.firstCells]
    exact key _ _ hrun (World.ownsRow_nil _ _ _ _) (Below.refl _ _)
  | some a =>
    have hnews : ∀ j u, (kv ks)[j]? = some u → w2.cell? (a.add j) = some u := fun j u hj => by
      have hjl : j < (kv ks).length := (List.getElem?_eq_some_iff.1 hj).1
      have hjk : j < ks.length := by simpa [kv] using hjl
      obtain ⟨g, o, hA, hg, hp⟩ := hl2.at_ (by omega)
      cases hA
      rw [add_none, hp j hjk]
      unfold kv at hj
      rw [List.getElem?_map, List.getElem?_eq_getElem hjk] at hj
      exact hj
    obtain ⟨v', w', hrun, hown, hgr, hnn⟩ := run_append_own (P := Try.prog) w2 w.heap.size 29 29 52 i0 (.int .u16 0) 1 2 Try.underlying29 hi hz0 hz1 hz2 rfl (by omega) _ 0 [] (World.ownsRow_nil _ _ _ _) a n c (kv ks) (by simp [kv, hkl]) hnews hone (by unfold maxLen; omega) (by omega) (by omega)
    simp only [Nat.zero_add, List.nil_append] at hown
    exact key _ _ hrun hown ((Below.refl w2.heap.size w2).grown hgr (Nat.le_refl _) (fun q hq => by simp [Value.ownBlock] at hq))
end Go.Proofs.Ytfcopniihcaefaa
