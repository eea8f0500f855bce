/- Parts that a call has made, in a row of its own. No condition. -/
import Derived.Test.YtapekipfkghdhaaKB
namespace Go.Proofs.Ytapekipfkghdhaa
open Go.RowKit
/-- The slice's block is one of bytes, from block base on. -/
def OB (w : World) (base : Nat) (A : Option Addr) : Prop := ∀ a, A = some a → base ≤ a.block ∧ ∃ cs f, w.heap[a.block]? = some (.cells cs 5 f)
theorem OB.block {w w' : World} {base : Nat} {A : Option Addr} (h : OB w base A) (hk : ∀ k, base ≤ k → k < w.heap.size → (∃ cs f, w.heap[k]? = some (.cells cs 5 f)) → w'.heap[k]? = w.heap[k]?) : OB w' base A := by
  intro a ha
  obtain ⟨hb, cs, f, hc⟩ := h a ha
  exact ⟨hb, cs, f, (hk _ hb (Array.getElem?_eq_some_iff.1 hc).1 ⟨cs, f, hc⟩).trans hc⟩
theorem SW.block {w w' : World} {base : Nat} {A : Option Addr} {n c : Nat} {l : List UInt8} (h : SW w A n c l) (ho : OB w base A) (hs : w.heap.size ≤ w'.heap.size) (hk : ∀ k, base ≤ k → k < w.heap.size → (∃ cs f, w.heap[k]? = some (.cells cs 5 f)) → w'.heap[k]? = w.heap[k]?) : SW w' A n c l :=
  ⟨BS.len h, BS.cap h, BS.max h, BS.nil h, fun hn => by
    obtain ⟨b, o, e, hb, hc⟩ := BS.at_ h hn
    obtain ⟨hb0, cs, f, hcs⟩ := ho _ e
    exact ⟨b, o, e, Nat.lt_of_lt_of_le hb hs, fun i hi => (World.cell?_of_block (a := ⟨b, o + i, none⟩) (hk b hb0 hb ⟨cs, f, hcs⟩)).trans (hc i hi)⟩⟩
theorem OB.own {w : World} {base n : Nat} {A : Option Addr} {c : Nat} {xs : List Value} (h : w.ownsRow base 5 1 (.slice A n c) n xs) : OB w base A := by
  intro a ha
  rcases h.2 with ⟨e, _⟩ | ⟨g, cap, cur, e, hb, hk, _⟩
  · injection e with e _ _; rw [e] at ha; cases ha
  · injection e with e _ _
    rw [e] at ha
    injection ha with ha
    subst ha
    exact ⟨hb, cur, _, hk⟩
/-- What an owned row's growth leaves as it was: another row. -/
theorem grown_typed {w w' : World} {base size n : Nat} {e : TypeId} {v : Value} {xs : List Value} (ho : w.ownsRow base e size v n xs) (hg : w.grownBy w' v.ownBlock) {k : Nat} {t : TypeId} {cs : Array Value} {f : Nat × Nat} (hk : w.heap[k]? = some (.cells cs t f)) (ht : t ≠ e) : w'.heap[k]? = w.heap[k]? := by
  refine hg.block k (Array.getElem?_eq_some_iff.1 hk).1 (fun x => ?_)
  rcases ho.2 with ⟨rfl, _⟩ | ⟨g, cap, cur, rfl, _, hh, _⟩
  · simp [Value.ownBlock] at x
  · simp [Value.ownBlock] at x
    subst x
    rw [hk] at hh
    injection hh with hh
    injection hh with _ h2 _
    exact ht h2
/-- Parts in a row of the call's own. -/
structure PT (w : World) (base : Nat) (v : Value) (ps : List Part) : Prop where
  row : w.ownsRow base 22 1 v ps.length (ps.map Part.v)
  bs : ∀ p ∈ ps, SW w p.A p.n p.c p.l
  ob : ∀ p ∈ ps, OB w base p.A
theorem PT.nil (w : World) (base : Nat) : PT w base (.slice none 0 0) [] := ⟨World.ownsRow_nil _ _ _ _, fun p h => (nomatch h), fun p h => (nomatch h)⟩
theorem PT.below {w w' : World} {base : Nat} {v : Value} {ps : List Part} (h : PT w base v ps) (hb : Below w.heap.size w w') : PT w' base v ps :=
  ⟨own_below h.row hb, fun p hp => (h.bs p hp).then_ hb, fun p hp => (h.ob p hp).block fun k _ hk _ => hb.block k hk⟩
theorem own_far {w w' : World} {base e size n g : Nat} {v : Value} {xs : List Value} (h : w.ownsRow base e size v n xs) (hg : w.grownBy w' (some g)) (hb : g < base) : w'.ownsRow base e size v n xs := by
  refine h.kept hg ?_
  rcases h.2 with ⟨rfl, _⟩ | ⟨k, cap, cur, rfl, hk, _⟩
  · exact .inl rfl
  · refine .inr (fun e => ?_)
    simp [Value.ownBlock] at e
    omega
theorem set_grown (w : World) (p i : Nat) (v : Value) : w.grownBy (w.setCell ⟨p, i, none⟩ v) (some p) :=
  ⟨rfl, rfl, rfl, by simp [World.setCell], fun k _ hne => Below.heap_setCell _ _ _ _ (fun e => hne (by rw [e]))⟩
theorem PT.far {w : World} {base g i : Nat} {v u : Value} {ps : List Part} (h : PT w base v ps) (hb : g < base) : PT (w.setCell ⟨g, i, none⟩ u) base v ps :=
  ⟨own_far h.row (set_grown w g i u) hb, fun p hp => (h.bs p hp).block (h.ob p hp) (set_grown w g i u).size (fun k hk _ _ => Below.heap_setCell _ _ _ _ (fun e => by simp at e; omega)),
    fun p hp => (h.ob p hp).block fun k hk _ _ => Below.heap_setCell _ _ _ _ (fun e => by simp at e; omega)⟩
theorem info_row : (Try.prog.info? 22).map (fun i => (i.zero.map (·.cells.size), i.size, i.bytes)) = some (some 1, 1, 24) := by kernel_rfl
/-- One part more. -/
theorem PT.run_snoc {w : World} {base g : Nat} {v : Value} {ps : List Part} (h : PT w base v ps) (p : Part) (hg : w.cell? ⟨g, 0, none⟩ = some p.v) (hs : SW w p.A p.n p.c p.l) (ho : OB w base p.A) (hb : base ≤ w.heap.size) (hn : ps.length ≤ 1099511627776) (ty : TypeId) :
    ∃ v' w', (Builtin.append_ #[33, 33] ty #[v, .slice (some ⟨g, 0, none⟩) 1 1]).run Try.prog w = .ok v' w' ∧ PT w' base v' (ps ++ [p]) ∧ w.grownBy w' v.ownBlock := by
  obtain ⟨i, hi⟩ : ∃ i, Try.prog.info? 22 = some i := by
    have := info_row
    cases h : Try.prog.info? 22 with
    | none => rw [h] at this; cases this
    | some i => exact ⟨i, rfl⟩
  have hif := info_row
  rw [hi] at hif
  simp only [Option.map_some, Option.some.injEq, Prod.mk.injEq] at hif
  obtain ⟨hz, hsz, hby⟩ := hif
  obtain ⟨z, hz1, hz2⟩ := Option.map_eq_some_iff.1 hz
  obtain ⟨v', w', h1, hown, hgr, _⟩ := run_append_own (P := Try.prog) w base 33 ty 22 i z 1 24 Try.underlying33 hi hz1 hsz hby hz2 (by omega) v ps.length (ps.map Part.v) h.row ⟨g, 0, none⟩ 1 1 [p.v] rfl
    (fun j u hj => by
      match j, hj with
      | 0, hj => simp at hj; subst hj; rw [add_none]; exact hg)
    (by intro u hu; simp at hu; subst hu; rfl) (by unfold maxLen; omega) (by omega) hb
  have hk : ∀ k, base ≤ k → k < w.heap.size → (∃ cs f, w.heap[k]? = some (.cells cs 5 f)) → w'.heap[k]? = w.heap[k]? := fun k _ _ ⟨cs, f, hc⟩ => grown_typed h.row hgr hc (by decide)
  refine ⟨v', w', h1, ⟨by simpa using hown, fun q hq => ?_, fun q hq => ?_⟩, hgr⟩
  · rcases List.mem_append.1 hq with hq | hq
    · exact (h.bs q hq).block (h.ob q hq) hgr.size hk
    · simp at hq; subst hq; exact hs.block ho hgr.size hk
  · rcases List.mem_append.1 hq with hq | hq
    · exact (h.ob q hq).block hk
    · simp at hq; subst hq; exact ho.block hk
theorem PT.form {w : World} {base : Nat} {v : Value} {ps : List Part} (h : PT w base v ps) : ∃ A c, v = .slice A ps.length c ∧ PS w w.heap.size A ps.length c ps := by
  rcases h.row.2 with ⟨e, hn⟩ | ⟨g, cap, cur, e, hbg, hk, hnc, hcm, hsz, htk⟩
  · exact ⟨none, 0, by rw [e, hn], rfl, by omega, Nat.zero_le _, fun hx => absurd hx (by omega)⟩
  · refine ⟨_, _, e, rfl, hnc, hcm, fun hx => ⟨g, 0, rfl, (Array.getElem?_eq_some_iff.1 hk).1, fun i hi => ?_, fun i hi => h.bs _ (List.getElem_mem hi)⟩⟩
    have hr : Row w g 22 cur := hk
    rw [Nat.zero_add, hr.cell]
    have h2 := congrArg (fun x => x[i]?) htk
    simp only [Nat.mul_one, List.getElem?_take, List.getElem?_map, Array.getElem?_toList] at h2
    rw [if_pos hi] at h2
    rw [h2, List.getElem?_eq_getElem hi]
    rfl
end Go.Proofs.Ytapekipfkghdhaa
