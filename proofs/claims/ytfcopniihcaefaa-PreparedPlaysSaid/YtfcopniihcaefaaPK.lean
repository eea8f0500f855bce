/- prepared: what each operation comes to, in plain words: a list of texts, numbers and keys. Of at most 2^39 entries, 2^40 keys each. -/
import Derived.Test.YtfcopniihcaefaaPJ
namespace Go.Proofs.Ytfcopniihcaefaa
open Go.RowKit
/-- An entry in plain words. -/
abbrev KE := List UInt8 × List UInt8 × List Nat
def putK (m : Nat) (x : KE) (L : List KE) : List KE := (x :: L.filter fun y => !(y.1 == x.1 || y.2.1 == x.2.1)).take m
def textK (t : List UInt8) (L : List KE) : List KE :=
  match L.find? fun y => y.1 == t with
  | none => L
  | some y => y :: L.eraseIdx (L.findIdx fun y => y.1 == t)
def dropK (i : List UInt8) (L : List KE) : List KE := L.eraseIdx (L.findIdx fun y => y.2.1 == i)
/-- A block that the cache's operations leave alone. -/
structure Far (w : World) (p : Nat) (v : Value) (b : Nat) : Prop where
  lt : b < w.heap.size
  ne : b ≠ p
  row : some b ≠ v.ownBlock
structure Kw (w w' : World) (p : Nat) (v v' : Value) : Prop where
  os : w'.os = w.os
  tape : w'.tape = w.tape
  output : w'.output = w.output
  size : w.heap.size ≤ w'.heap.size
  keep : ∀ b, Far w p v b → Far w' p v' b ∧ w'.heap[b]? = w.heap[b]?
theorem Kw.trans {a b c : World} {p : Nat} {v1 v2 v3 : Value} (h : Kw a b p v1 v2) (k : Kw b c p v2 v3) : Kw a c p v1 v3 :=
  ⟨k.os.trans h.os, k.tape.trans h.tape, k.output.trans h.output, Nat.le_trans h.size k.size, fun x hx => ⟨(k.keep x (h.keep x hx).1).1, (k.keep x (h.keep x hx).1).2.trans (h.keep x hx).2⟩⟩
theorem Kp.kw {w w' : World} {p : Nat} {v v' : Value} (h : Kp w w' p v) (hv : v'.ownBlock = v.ownBlock ∨ ∀ g, v'.ownBlock = some g → w.heap.size ≤ g) : Kw w w' p v v' :=
  ⟨h.os, h.tape, h.output, h.size, fun b hb => ⟨⟨Nat.lt_of_lt_of_le hb.lt h.size, hb.ne, by
    rcases hv with hv | hv
    · rw [hv]; exact hb.row
    · intro e
      have := hv b e.symm
      have := hb.lt
      omega⟩, h.block b hb.lt hb.ne hb.row⟩⟩
theorem Kw.of_below {w w' : World} (h : Below w.heap.size w w') (p : Nat) (v : Value) : Kw w w' p v v := (Kp.of_below h p v).kw (.inl rfl)
/-- The cache, in plain words. -/
structure CK (w : World) (base p m : Nat) (v : Value) (L : List KE) : Prop where
  ex : ∃ es, CA w base p m v es ∧ es.map En.k = L
  big : ∀ x ∈ L, x.2.2.length ≤ 1099511627776
theorem CK.lt {w : World} {base p m : Nat} {v : Value} {L : List KE} (h : CK w base p m v L) : p < base := by
  obtain ⟨es, hc, _⟩ := h.ex
  exact hc.lt
theorem CK.le {w : World} {base p m : Nat} {v : Value} {L : List KE} (h : CK w base p m v L) : base ≤ w.heap.size := by
  obtain ⟨es, hc, _⟩ := h.ex
  exact hc.le
theorem CK.row {w : World} {base p m : Nat} {v : Value} {L : List KE} (h : CK w base p m v L) {b : Nat} (hb : v.ownBlock = some b) : base ≤ b ∧ b < w.heap.size := by
  obtain ⟨es, hc, _⟩ := h.ex
  exact World.ownsRow.lt hc.el b hb
theorem CK.below {w w' : World} {base p m : Nat} {v : Value} {L : List KE} (h : CK w base p m v L) (hb : Below w.heap.size w w') : CK w' base p m v L := by
  obtain ⟨es, hc, hk⟩ := h.ex
  exact ⟨⟨es, hc.below hb, hk⟩, h.big⟩
theorem CK.drew {w : World} {base p m : Nat} {v : Value} {L : List KE} (h : CK w base p m v L) : CK w.drew base p m v L := by
  obtain ⟨es, hc, hk⟩ := h.ex
  exact ⟨⟨es, hc.drew, hk⟩, h.big⟩
theorem CK.far {w : World} {base p m : Nat} {v : Value} {L : List KE} (h : CK w base p m v L) {b : Nat} (hb : b < w.heap.size) (hx : b < base ∨ (∃ u : World, u.heap.size ≤ b ∧ ∀ g, v.ownBlock = some g → g < u.heap.size)) (hp : b ≠ p) : Far w p v b :=
  ⟨hb, hp, fun e => by
    rcases hx with hx | ⟨u, hu, hg⟩
    · have := (h.row e.symm).1
      omega
    · have := hg b e.symm
      omega⟩
/-- A block that is made. -/
theorem CK.far_new {w : World} {base p m : Nat} {v : Value} {L : List KE} (h : CK w base p m v L) (o : Obj) : Far (w.alloc o) p v w.heap.size := by
  have h1 := h.lt
  have h2 := h.le
  exact ⟨by simp, by omega, fun e => by have := (h.row e.symm).2; omega⟩
theorem CK.kw_below {w w' : World} {base p m : Nat} {v v' : Value} {L : List KE} (h : CK w base p m v L) (hk : Kw w w' p v v') {B : Nat} (hB : B ≤ p) : Below B w w' :=
  ⟨hk.os, hk.tape, hk.output, hk.size, fun b hb => by
    have h1 := h.lt
    have h2 := h.le
    exact (hk.keep b ⟨by omega, by omega, fun e => by have := (h.row e.symm).1; omega⟩).2⟩
theorem Kw.row {w w' : World} {p g : Nat} {v v' : Value} {t : TypeId} {cs : Array Value} (h : Kw w w' p v v') (hr : Row w g t cs) (hf : Far w p v g) : Row w' g t cs := (h.keep g hf).2.trans hr
/-- What Text and Id tell, in plain words. -/
def GotK (w' : World) (base : Nat) (o : Option KE) (r : Ending) : Prop :=
  match o with
  | none => r = .returned (.tuple #[.agg #[.string ⟨[].toArray⟩, .string ⟨[].toArray⟩, .slice none 0 0], .bool false])
  | some e => ∃ A' c', r = .returned (.tuple #[.agg #[.string ⟨e.1.toArray⟩, .string ⟨e.2.1.toArray⟩, .slice A' e.2.2.length c'], .bool true]) ∧ KO w' base ⟨e.1, e.2.1, A', e.2.2.length, c', e.2.2⟩
theorem KO.n {w : World} {base : Nat} {e : En} (h : KO w base e) : e.n = e.ks.length := by have := h.us.len; omega
theorem Got.k {w w' : World} {base base2 : Nat} {es : List En} {f : En → Bool} {g : KE → Bool} {r : Ending} (h : Got w' base2 (es.find? f) r) (hk : ∀ e ∈ es, KO w base e) (hfg : ∀ e, f e = g e.k) : GotK w' base2 ((es.map En.k).find? g) r := by
  have hf : f = g ∘ En.k := funext hfg
  rw [List.find?_map, ← hf]
  cases ho : es.find? f with
  | none => rw [ho] at h; exact h
  | some e =>
    rw [ho] at h
    have he := hk e (List.mem_of_find?_eq_some ho)
    obtain ⟨A', c', h1, h2⟩ := h
    rw [he.n] at h1 h2
    exact ⟨A', c', h1, h2⟩
theorem CK.nk {w : World} {base p m : Nat} {v : Value} {L : List KE} {es : List En} (h : CK w base p m v L) (hc : CA w base p m v es) (hk : es.map En.k = L) : ∀ e ∈ es, e.n ≤ 1099511627776 := fun e he => by
  rw [(hc.ks e he).n]
  have := h.big e.k (by rw [← hk]; exact List.mem_map_of_mem he)
  exact this
theorem put_k {base p m B : Nat} {v : Value} {L : List KE} (t i : List UInt8) (A : Option Addr) (n c : Nat) (ks : List Nat) (w : World) (hc : CK w base p m v L) (hus : US w B A n c ks) (hB : B ≤ p) (hn : n ≤ 1099511627776) (hlen : L.length ≤ 549755813888) :
    Calls Try.prog 9 #[.pointer (some ⟨p, 0, none⟩), .agg #[.string ⟨t.toArray⟩, .string ⟨i.toArray⟩, .slice A n c]] w fun r w' => r = .returned (.tuple #[]) ∧ ∃ v', CK w' base p m v' (putK m (t, i, ks) L) ∧ Kw w w' p v v' := by
  obtain ⟨es, hca, hk⟩ := hc.ex
  refine (put_any ⟨t, i, A, n, c, ks⟩ w hca hus hB hn (by rw [← hk, List.length_map] at hlen; exact hlen)).mono ?_
  rintro _ w' ⟨rfl, v', ⟨t', i', A', n', c', ks'⟩, h1, h2, h3, h4, h5, h6⟩
  simp only at h2 h3 h4
  subst h2
  subst h3
  subst h4
  have hm : (((⟨t', i', A', n', c', ks'⟩ : En) :: es.filter fun x => !(x.t == t' || x.i == i')).take m).map En.k = putK m (t', i', ks') L := by
    rw [List.map_take, List.map_cons]
    unfold putK
    congr 2
    rw [← hk, List.filter_map]
    rfl
  refine ⟨rfl, v', ⟨⟨_, h1, hm⟩, fun x hx => ?_⟩, h5.kw h6⟩
  rcases List.mem_cons.1 (List.mem_of_mem_take hx) with rfl | hx
  · have := hus.len
    simp only
    omega
  · exact hc.big x (List.mem_filter.1 hx).1
theorem erase_map {α β : Type} (f : α → β) (l : List α) (i : Nat) : (l.eraseIdx i).map f = (l.map f).eraseIdx i := by
  rw [List.eraseIdx_eq_take_drop_succ, List.eraseIdx_eq_take_drop_succ, List.map_append, List.map_take, List.map_drop]
theorem text_map (t : List UInt8) (es : List En) : (mtf t es).map En.k = textK t (es.map En.k) := by
  unfold mtf textK
  have hf : (fun e : En => e.t == t) = (fun y : KE => y.1 == t) ∘ En.k := rfl
  rw [List.find?_map, ← hf, List.findIdx_map, ← hf]
  cases es.find? (fun e => e.t == t) with
  | none => rfl
  | some e => simp [erase_map]
theorem text_sub (t : List UInt8) (L : List KE) : ∀ x ∈ textK t L, x ∈ L := by
  intro x hx
  unfold textK at hx
  cases ho : L.find? (fun y => y.1 == t) with
  | none => rw [ho] at hx; exact hx
  | some y =>
    rw [ho] at hx
    rcases List.mem_cons.1 hx with rfl | hx
    · exact List.mem_of_find?_eq_some ho
    · exact List.mem_of_mem_eraseIdx hx
theorem text_k {base p m : Nat} {v : Value} {L : List KE} (t : List UInt8) (w : World) (hc : CK w base p m v L) (hlen : L.length ≤ 549755813888) :
    Calls Try.prog 12 #[.pointer (some ⟨p, 0, none⟩), .string ⟨t.toArray⟩] w fun r w' => CK w' base p m v (textK t L) ∧ Kw w w' p v v ∧ GotK w' w.heap.size (L.find? fun y => y.1 == t) r := by
  obtain ⟨es, hca, hk⟩ := hc.ex
  refine (text_any t w hca (by rw [← hk, List.length_map] at hlen; omega) (hc.nk hca hk)).mono ?_
  rintro r w' ⟨h1, h2, h3⟩
  refine ⟨⟨⟨_, h1, by rw [text_map, hk]⟩, fun x hx => hc.big x (text_sub t L x hx)⟩, h2.kw (.inl rfl), ?_⟩
  rw [← hk]
  exact h3.k hca.ks (fun _ => rfl)
theorem id_k {base p m : Nat} {v : Value} {L : List KE} (t : List UInt8) (w : World) (hc : CK w base p m v L) (hlen : L.length ≤ 549755813888) :
    Calls Try.prog 15 #[.pointer (some ⟨p, 0, none⟩), .string ⟨t.toArray⟩] w fun r w' => CK w' base p m v L ∧ Below w.heap.size w w' ∧ GotK w' w.heap.size (L.find? fun y => y.2.1 == t) r := by
  obtain ⟨es, hca, hk⟩ := hc.ex
  refine (id_any t w hca (by rw [← hk, List.length_map] at hlen; omega) (hc.nk hca hk)).mono ?_
  rintro r w' ⟨h1, h3⟩
  refine ⟨hc.below h1, h1, ?_⟩
  rw [← hk]
  exact h3.k hca.ks (fun _ => rfl)
theorem drop_k {base p m : Nat} {v : Value} {L : List KE} (t : List UInt8) (w : World) (hc : CK w base p m v L) (hlen : L.length ≤ 549755813888) :
    Calls Try.prog 17 #[.pointer (some ⟨p, 0, none⟩), .string ⟨t.toArray⟩] w fun r w' => r = .returned (.bool (L.find? fun y => y.2.1 == t).isSome) ∧ ∃ v', CK w' base p m v' (dropK t L) ∧ Kw w w' p v v' := by
  obtain ⟨es, hca, hk⟩ := hc.ex
  refine (drop_any t w hca (by rw [← hk, List.length_map] at hlen; omega)).mono ?_
  rintro r w' ⟨rfl, v', h1, h2, h3⟩
  have hf : (fun e : En => e.i == t) = (fun y : KE => y.2.1 == t) ∘ En.k := rfl
  have hm : (es.eraseIdx (es.findIdx fun e => e.i == t)).map En.k = dropK t L := by
    unfold dropK
    rw [← hk, List.findIdx_map, ← hf, erase_map]
  refine ⟨?_, v', ⟨⟨_, h1, hm⟩, fun x hx => hc.big x (List.mem_of_mem_eraseIdx hx)⟩, h2.kw (.inl h3)⟩
  rw [← hk, List.find?_map, ← hf]
  simp
theorem all_k {base p m : Nat} {v : Value} {L : List KE} (w : World) (hc : CK w base p m v L) (hlen : L.length ≤ 549755813888) :
    Calls Try.prog 19 #[.pointer (some ⟨p, 0, none⟩)] w fun r w' => ∃ v' out, r = .returned v' ∧ EL w' w.heap.size v' out ∧ (∀ e ∈ out, KO w' w.heap.size e) ∧ out.map En.k = L ∧ Below w.heap.size w w' := by
  obtain ⟨es, hca, hk⟩ := hc.ex
  refine (all_any w hca (by rw [← hk, List.length_map] at hlen; omega) (hc.nk hca hk)).mono ?_
  rintro r w' ⟨v', out, h1, h2, h3, h4, h5⟩
  exact ⟨v', out, h1, h2, h3, h4.trans hk, h5⟩
theorem new_k (n : Int) (m : Nat) (w : World) (hm : max n 0 = (m : Int)) : Calls Try.prog 8 #[.int .i64 n] w fun e w' => e = .returned (.pointer (some ⟨w.heap.size, 0, none⟩)) ∧ CK w' (w.heap.size + 1) w.heap.size m (.slice none 0 0) [] ∧ Below w.heap.size w w' := by
  refine (new_any n m w hm).mono ?_
  rintro _ _ ⟨rfl, rfl⟩
  exact ⟨rfl, ⟨⟨[], ⟨Row.new _ _ _, World.ownsRow_nil _ _ _ _, fun e he => absurd he (by simp), Nat.lt_succ_self _, by simp⟩, rfl⟩, fun x hx => absurd hx (by simp)⟩, below_new (Below.refl _ _) _⟩
/-- On nil. -/
theorem put_none (w : World) : Calls Try.prog 9 #[.pointer none, .agg #[.string ⟨[].toArray⟩, .string ⟨[].toArray⟩, .slice none 0 0]] w fun r w' => r = .returned (.tuple #[]) ∧ Below w.heap.size w w' := by
  go_enter Try.func9, Try.ntmps9
  go_wp2_with fail
  refine bodyPost_ret (results_none rfl _ _ _) rfl ?_
  exact ⟨rfl, below_new (Below.refl _ _) _⟩
theorem text_none (t : List UInt8) (w : World) : Calls Try.prog 12 #[.pointer none, .string ⟨t.toArray⟩] w fun r w' => r = .returned (.tuple #[.agg #[.string ⟨[].toArray⟩, .string ⟨[].toArray⟩, .slice none 0 0], .bool false]) ∧ Below w.heap.size w w' := by
  go_enter Try.func12, Try.ntmps12
  go_wp2_with fail
  refine (find_text_none _ _).mono ?_
  rintro _ w3 ⟨rfl, rfl⟩
  go_wp2_with fail
  refine bodyPost_ret (by simp [results, Try.results12, go_sem]; try rfl) rfl ?_
  exact ⟨rfl, below_new (below_new (Below.refl _ _) _) _⟩
theorem id_none (t : List UInt8) (w : World) : Calls Try.prog 15 #[.pointer none, .string ⟨t.toArray⟩] w fun r w' => r = .returned (.tuple #[.agg #[.string ⟨[].toArray⟩, .string ⟨[].toArray⟩, .slice none 0 0], .bool false]) ∧ Below w.heap.size w w' := by
  go_enter Try.func15, Try.ntmps15
  go_wp2_with fail
  refine (find_id_none _ _).mono ?_
  rintro _ w3 ⟨rfl, rfl⟩
  go_wp2_with fail
  refine bodyPost_ret (by simp [results, Try.results15, go_sem]; try rfl) rfl ?_
  exact ⟨rfl, below_new (below_new (Below.refl _ _) _) _⟩
theorem drop_none (t : List UInt8) (w : World) : Calls Try.prog 17 #[.pointer none, .string ⟨t.toArray⟩] w fun r w' => r = .returned (.bool false) ∧ Below w.heap.size w w' := by
  go_enter Try.func17, Try.ntmps17
  go_wp2_with fail
  refine (find_drop_none _ _).mono ?_
  rintro _ w3 ⟨rfl, rfl⟩
  go_wp2_with fail
  go_ret
  exact ⟨rfl, below_new (Below.refl _ _) _⟩
theorem all_none (w : World) : Calls Try.prog 19 #[.pointer none] w fun r w' => r = .returned (.slice none 0 0) ∧ w' = w := by
  go_enter Try.func19, Try.ntmps19
  go_wp2_with fail
  go_ret
  exact ⟨rfl, rfl⟩
end Go.Proofs.Ytfcopniihcaefaa
