/- prepared: an entry in memory, the closures, own, New, where an entry stands. No condition but that keys take at most 2^40 places. -/
import Derived.Test.YtfcopniihcaefaaB
import Derived.Maps.AppendAt
import Derived.Deep.AppendLies
import Derived.Laws.OwnMore
import Derived.Deep.Draws
import Derived.Handy
namespace Go.Proofs.Ytfcopniihcaefaa
open Go.RowKit
theorem add_none (b o k : Nat) : (Addr.mk b o none).add k = ⟨b, o + k, none⟩ := by
  unfold Addr.add
  by_cases h : k = 0 <;> simp [h]
/-- Block g holds just the cells cs, of elements of type t, and may be written. -/
def Row (w : World) (g : Nat) (t : TypeId) (cs : Array Value) : Prop := w.heap[g]? = some (.cells cs t (0, 0))
section
variable {w w' : World} {g : Nat} {t : TypeId} {cs : Array Value}
theorem Row.lt (h : Row w g t cs) : g < w.heap.size := (Array.getElem?_eq_some_iff.1 h).1
theorem Row.cell (h : Row w g t cs) (i : Nat) : w.cell? ⟨g, i, none⟩ = cs[i]? := by
  unfold Row at h
  simp [World.cell?, h]
theorem Row.frozen (h : Row w g t cs) (i : Nat) : w.frozen? ⟨g, i, none⟩ = false := by
  unfold Row at h
  simp [World.frozen?, h]
theorem Row.new (w : World) (t : TypeId) (cs : Array Value) : Row (w.alloc (.cells cs t)) w.heap.size t cs := heap_alloc_new w _
theorem Row.drew (h : Row w g t cs) : Row w.drew g t cs := h
theorem Row.drewN (h : Row w g t cs) (n : Nat) : Row (w.drewN n) g t cs := h
theorem Row.alloc (h : Row w g t cs) (o : Obj) : Row (w.alloc o) g t cs := (Below.heap_alloc w o g h.lt).trans h
theorem Row.set_ (h : Row w g t cs) (i : Nat) (u : Value) : Row (w.setCell ⟨g, i, none⟩ u) g t (cs.setIfInBounds i u) := by
  unfold Row at h ⊢
  simp [World.setCell, Array.getElem?_modify, h]
theorem Row.far (h : Row w g t cs) {p : Addr} (hp : g ≠ p.block) (u : Value) : Row (w.setCell p u) g t cs := (Below.heap_setCell w p u g hp).trans h
theorem Row.below {B : Nat} (h : Row w g t cs) (hb : Below B w w') (hg : g < B) : Row w' g t cs := (hb.block g hg).trans h
theorem Row.grown {row : Option Nat} (h : Row w g t cs) (hb : w.grownBy w' row) (hg : some g ≠ row) : Row w' g t cs := (hb.block g h.lt hg).trans h
theorem Row.owns {base e : Nat} (h : Row w g e cs) (hb : base ≤ g) {n : Nat} (hn : n ≤ cs.size) (hm : cs.size ≤ maxLen) : w.ownsRow base e 1 (.slice (some ⟨g, 0, none⟩) n cs.size) n (cs.toList.take n) :=
  ⟨by simp; omega, .inr ⟨g, cs.size, cs, rfl, hb, h, hn, hm, by simp, by simp⟩⟩
end
theorem own_below {w w' : World} {base n : Nat} {v : Value} {xs : List Value} {e : TypeId} {size : Nat} (h : w.ownsRow base e size v n xs) (hb : Below w.heap.size w w') : w'.ownsRow base e size v n xs := by
  obtain ⟨h1, h2⟩ := h
  refine ⟨h1, ?_⟩
  rcases h2 with h2 | ⟨g, cap, cur, hv, hg, hk, hr⟩
  · exact .inl h2
  · exact .inr ⟨g, cap, cur, hv, hg, (hb.block g (Array.getElem?_eq_some_iff.1 hk).1).trans hk, hr⟩
/-- An entry: its text, its number, its keys' slice. -/
structure En where
  t : List UInt8
  i : List UInt8
  A : Option Addr
  n : Nat
  c : Nat
  ks : List Nat
def En.v (e : En) : Value := .agg #[.string ⟨e.t.toArray⟩, .string ⟨e.i.toArray⟩, .slice e.A e.n e.c]
def enCells (e : En) : List Value := [.string ⟨e.t.toArray⟩, .string ⟨e.i.toArray⟩, .slice e.A e.n e.c]
/-- A slice of keys. -/
structure US (w : World) (B : Nat) (A : Option Addr) (n c : Nat) (zs : List Nat) : Prop where
  len : zs.length = n
  cap : n ≤ c
  max : c ≤ maxLen
  rng : ∀ z ∈ zs, z < 65536
  nil : A = none → c = 0
  at_ : 0 < n → ∃ g o, A = some ⟨g, o, none⟩ ∧ g < B ∧ ∀ i (h : i < zs.length), w.cell? ⟨g, o + i, none⟩ = some (.int .u16 (zs[i] : Int))
theorem US.below {w w' : World} {B n c : Nat} {A : Option Addr} {zs : List Nat} (h : US w B A n c zs) (hb : Below B w w') : US w' B A n c zs :=
  ⟨h.len, h.cap, h.max, h.rng, h.nil, fun hn => by
    obtain ⟨g, o, e, hg, hp⟩ := h.at_ hn
    exact ⟨g, o, e, hg, fun i hi => (hb.cell (p := ⟨g, o + i, none⟩) hg).trans (hp i hi)⟩⟩
theorem US.more {w : World} {B B' n c : Nat} {A : Option Addr} {zs : List Nat} (h : US w B A n c zs) (hb : B ≤ B') : US w B' A n c zs :=
  ⟨h.len, h.cap, h.max, h.rng, h.nil, fun hn => by
    obtain ⟨g, o, e, hg, hp⟩ := h.at_ hn
    exact ⟨g, o, e, Nat.lt_of_lt_of_le hg hb, hp⟩⟩
/-- Entries in a row. -/
structure ES (w : World) (g o : Nat) (es : List En) : Prop where
  t : ∀ k (h : k < es.length), w.cell? ⟨g, o + k * 3, none⟩ = some (.string ⟨es[k].t.toArray⟩)
  i : ∀ k (h : k < es.length), w.cell? ⟨g, o + k * 3 + 1, none⟩ = some (.string ⟨es[k].i.toArray⟩)
  k : ∀ k (h : k < es.length), w.cell? ⟨g, o + k * 3 + 2, none⟩ = some (.slice es[k].A es[k].n es[k].c)
theorem ES.below {w w' : World} {g o : Nat} {es : List En} (h : ES w g o es) (hg : g < w.heap.size) (hb : Below w.heap.size w w') : ES w' g o es :=
  ⟨fun k hk => (hb.cell (p := ⟨g, _, none⟩) hg).trans (h.t k hk), fun k hk => (hb.cell (p := ⟨g, _, none⟩) hg).trans (h.i k hk), fun k hk => (hb.cell (p := ⟨g, _, none⟩) hg).trans (h.k k hk)⟩
theorem new_any (n : Int) (m : Nat) (w : World) (hm : max n 0 = (m : Int)) : Calls Try.prog 8 #[.int .i64 n] w fun e w' => e = .returned (.pointer (some ⟨w.heap.size, 0, none⟩)) ∧ w' = w.alloc (.cells #[.int .i64 (m : Int), .slice none 0 0] 57) := by
  by_cases h : n < 0
  · obtain rfl : m = 0 := by omega
    go_enter Try.func8, Try.ntmps8
    go_wp2_with fail
    go_ret
    exact ⟨rfl, rfl⟩
  · obtain rfl : n = (m : Int) := by omega
    clear hm
    go_enter Try.func8, Try.ntmps8
    go_wp2_with fail
    go_ret
    exact ⟨rfl, rfl⟩
/-- The closures: of one text, of one number, of either. -/
theorem text_c (e : En) (q : Nat) (t : List UInt8) (w : World) (hq : w.cell? ⟨q, 0, none⟩ = some (.string ⟨t.toArray⟩)) (hl : q < w.heap.size) : Calls Try.prog 24 #[e.v, .pointer (some ⟨q, 0, none⟩)] w fun r w' => r = .returned (.bool (e.t == t)) ∧ Below w.heap.size w w' := by
  unfold En.v
  go_enter Try.func24, Try.ntmps24
  go_wp2_with fail
  go_ret
  exact ⟨rfl, below_new (Below.refl _ _) _⟩
theorem id_c (e : En) (q : Nat) (t : List UInt8) (w : World) (hq : w.cell? ⟨q, 0, none⟩ = some (.string ⟨t.toArray⟩)) (hl : q < w.heap.size) : Calls Try.prog 25 #[e.v, .pointer (some ⟨q, 0, none⟩)] w fun r w' => r = .returned (.bool (e.i == t)) ∧ Below w.heap.size w w' := by
  unfold En.v
  go_enter Try.func25, Try.ntmps25
  go_wp2_with fail
  go_ret
  exact ⟨rfl, below_new (Below.refl _ _) _⟩
theorem drop_c (e : En) (q : Nat) (t : List UInt8) (w : World) (hq : w.cell? ⟨q, 0, none⟩ = some (.string ⟨t.toArray⟩)) (hl : q < w.heap.size) : Calls Try.prog 26 #[e.v, .pointer (some ⟨q, 0, none⟩)] w fun r w' => r = .returned (.bool (e.i == t)) ∧ Below w.heap.size w w' := by
  unfold En.v
  go_enter Try.func26, Try.ntmps26
  go_wp2_with fail
  go_ret
  exact ⟨rfl, below_new (Below.refl _ _) _⟩
theorem put_c (e : En) (q : Nat) (t i : List UInt8) (w : World) (hq : w.cell? ⟨q, 0, none⟩ = some (.string ⟨t.toArray⟩)) (hq1 : w.cell? ⟨q, 1, none⟩ = some (.string ⟨i.toArray⟩)) (hl : q < w.heap.size) : Calls Try.prog 21 #[e.v, .pointer (some ⟨q, 0, none⟩)] w fun r w' => r = .returned (.bool (e.t == t || e.i == i)) ∧ Below w.heap.size w w' := by
  unfold En.v
  by_cases h : e.t = t
  · subst h
    go_enter Try.func21, Try.ntmps21
    go_wp2_with fail
    go_ret
    exact ⟨by simp, below_new (Below.refl _ _) _⟩
  · have hb : (e.t == t) = false := by simpa using h
    go_enter Try.func21, Try.ntmps21
    go_wp2_with fail
    go_ret
    exact ⟨by simp [hb], below_new (Below.refl _ _) _⟩
end Go.Proofs.Ytfcopniihcaefaa
