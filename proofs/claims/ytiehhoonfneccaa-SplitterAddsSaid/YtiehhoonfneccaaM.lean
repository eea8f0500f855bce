/- Byte slices in memory: what they read as, how that is kept, cut, joined, made a string. No condition. -/
import Derived.Test.YtiehhoonfneccaaB
import Derived.Maps.AppendAt
import Derived.Deep.AppendLies
import Derived.Laws.OwnMore
import Derived.Laws.BytesString
import Derived.Laws.IdiomStrings
import Derived.Deep.Draws
namespace Go.Proofs.Ytiehhoonfneccaa
open Go.RowKit

/-- The cells of bytes. -/
def bv (l : List UInt8) : List Value := l.map fun b => .int .u8 (b.toNat : Int)
theorem bv_len (l : List UInt8) : (bv l).length = l.length := by simp [bv]
theorem bv_append (l m : List UInt8) : bv (l ++ m) = bv l ++ bv m := by simp [bv]
theorem bv_at (l : List UInt8) (i : Nat) (h : i < l.length) : (bv l)[i]? = some (.int .u8 (l[i].toNat : Int)) := by simp [bv, h]
theorem bv_one (l : List UInt8) : ∀ u ∈ bv l, u.oneCell' = true := by
  intro u hu
  simp only [bv, List.mem_map] at hu
  obtain ⟨b, _, rfl⟩ := hu
  rfl

/-- The byte slice '.slice A n c' reads as l; its memory lies below block B. -/
structure BS (w : World) (B : Nat) (A : Option Addr) (n c : Nat) (l : List UInt8) : Prop where
  len : l.length = n
  cap : n ≤ c
  max : c ≤ maxLen
  nil : A = none → c = 0
  at_ : 0 < n → ∃ b o, A = some ⟨b, o, none⟩ ∧ b < B ∧ ∀ i (h : i < l.length), w.cell? ⟨b, o + i, none⟩ = some (.int .u8 (l[i].toNat : Int))

section
variable {w w' : World} {B B' n c : Nat} {A : Option Addr} {l : List UInt8}
theorem BS.none_ (w : World) (B : Nat) : BS w B none 0 0 [] := ⟨rfl, Nat.le_refl _, Nat.zero_le _, fun _ => rfl, fun h => absurd h (by omega)⟩
theorem BS.keep (h : BS w B A n c l) (hk : ∀ b o, b < B → w'.cell? ⟨b, o, none⟩ = w.cell? ⟨b, o, none⟩) : BS w' B A n c l :=
  ⟨h.len, h.cap, h.max, h.nil, fun hn => by
    obtain ⟨b, o, e, hb, hc⟩ := h.at_ hn
    exact ⟨b, o, e, hb, fun i hi => (hk _ _ hb).trans (hc i hi)⟩⟩
theorem BS.more (h : BS w B A n c l) (hB : B ≤ B') : BS w B' A n c l :=
  ⟨h.len, h.cap, h.max, h.nil, fun hn => by
    obtain ⟨b, o, e, hb, hc⟩ := h.at_ hn
    exact ⟨b, o, e, by omega, hc⟩⟩
theorem BS.below (h : BS w B A n c l) (hb : Below B w w') : BS w' B A n c l := h.keep fun _ _ hp => hb.cell (p := ⟨_, _, none⟩) hp
theorem BS.drew (h : BS w B A n c l) : BS w.drew B A n c l := h.keep fun _ _ _ => rfl
theorem BS.drewN (h : BS w B A n c l) (k : Nat) : BS (w.drewN k) B A n c l := h.keep fun _ _ _ => rfl
theorem BS.alloc (h : BS w B A n c l) (hB : B ≤ w.heap.size) (o : Obj) : BS (w.alloc o) B A n c l := h.keep fun b _ hp => World.cell?_alloc_lt w o ⟨b, _, none⟩ (by show b < _; omega)
theorem BS.setCell (h : BS w B A n c l) {p : Addr} (hB : B ≤ p.block) (u : Value) : BS (w.setCell p u) B A n c l :=
  h.keep fun b o hq => World.cell?_setCell_other w p ⟨b, o, none⟩ u (fun e => by subst e; simp at hB; omega)
theorem BS.grown (h : BS w B A n c l) {row : Option Nat} (hg : w.grownBy w' row) (hB : B ≤ w.heap.size) (hr : ∀ g, row = some g → B ≤ g) : BS w' B A n c l :=
  h.keep fun b o hp => World.cell?_of_block (hg.block b (by omega) (fun e => by have := hr _ e.symm; omega))
theorem BS.empty (h : BS w B A n c l) (hn : n = 0) : l = [] := List.eq_nil_of_length_eq_zero (by rw [h.len, hn])
/-- One byte, by its place. -/
theorem BS.byte (h : BS w B A n c l) {k : Nat} (hk : k < n) : ∃ b o, A = some ⟨b, o, none⟩ ∧ b < B ∧ ∃ hl : k < l.length, w.cell? ⟨b, o + k, none⟩ = some (.int .u8 (l[k].toNat : Int)) := by
  obtain ⟨b, o, e, hb, hc⟩ := h.at_ (by omega)
  have hl : k < l.length := by rw [h.len]; exact hk
  exact ⟨b, o, e, hb, hl, hc k hl⟩
theorem add_none (b o k : Nat) : (Addr.mk b o none).add k = ⟨b, o + k, none⟩ := by
  unfold Addr.add
  by_cases h : k = 0 <;> simp [h]
/-- A cut from k on. -/
theorem BS.from_ (h : BS w B A n c l) {k : Nat} (hk : k ≤ n) : BS w B (if c = k then A else A.map (·.add k)) (n - k) (c - k) (l.drop k) := by
  have hc := h.cap
  have hm := h.max
  refine ⟨by rw [List.length_drop, h.len], by omega, by omega, fun e => ?_, fun hn => ?_⟩
  · split at e
    · omega
    · have := h.nil (by simpa using e); omega
  · obtain ⟨b, o, rfl, hb, hcell⟩ := h.at_ (by omega)
    rw [if_neg (by omega)]
    refine ⟨b, o + k, by simp [add_none], hb, fun i hi => ?_⟩
    have hi' : k + i < l.length := by rw [List.length_drop] at hi; omega
    have := hcell (k + i) hi'
    rw [show o + (k + i) = o + k + i from by omega] at this
    rw [this]; simp
/-- A cut up to k. -/
theorem BS.upto (h : BS w B A n c l) {k : Nat} (hk : k ≤ n) : BS w B A k c (l.take k) := by
  refine ⟨by rw [List.length_take, h.len]; omega, by have := h.cap; omega, h.max, h.nil, fun hn => ?_⟩
  obtain ⟨b, o, e, hb, hcell⟩ := h.at_ (by omega)
  refine ⟨b, o, e, hb, fun i hi => ?_⟩
  have hi' : i < l.length := by rw [List.length_take] at hi; omega
  rw [hcell i hi']; simp
/-- What the call owns reads so. -/
theorem BS.of_own {base : Nat} {e : TypeId} {v : Value} (h : w.ownsRow base e 1 v n (bv l)) : ∃ A c, v = .slice A n c ∧ BS w w.heap.size A n c l := by
  have hl : l.length = n := by have := h.1; rw [bv_len] at this; omega
  rcases h.2 with ⟨rfl, rfl⟩ | ⟨g, cap, cur, rfl, hb, hh, hnc, hmx, hsz, htk⟩
  · have : l = [] := List.eq_nil_of_length_eq_zero hl
    subst this
    exact ⟨none, 0, rfl, BS.none_ _ _⟩
  · refine ⟨_, cap, rfl, hl, hnc, hmx, (fun e => by cases e), fun hn => ⟨g, 0, rfl, (Array.getElem?_eq_some_iff.1 hh).1, fun i hi => ?_⟩⟩
    have h1 : (cur.toList.take (n * 1))[i]? = some (.int .u8 (l[i].toNat : Int)) := by rw [htk]; exact bv_at l i hi
    have h2 : cur[i]? = some (.int .u8 (l[i].toNat : Int)) := by
      rw [List.getElem?_take] at h1
      split at h1
      · simpa using h1
      · cases h1
    simpa [World.cell?, hh] using h2
/-- The cells, for an append. -/
theorem BS.news (h : BS w B A n c l) : (bv l).length = n * 1 ∧ ∀ ad, A = some ad → ∀ j u, (bv l)[j]? = some u → w.cell? (ad.add j) = some u := by
  refine ⟨by rw [bv_len, h.len, Nat.mul_one], fun ad had j u hu => ?_⟩
  have hj : j < l.length := by
    rcases Nat.lt_or_ge j l.length with hj | hj
    · exact hj
    · rw [List.getElem?_eq_none (by rw [bv_len]; exact hj)] at hu; cases hu
  obtain ⟨b, o, e, _, hc⟩ := h.at_ (by have := h.len; omega)
  rw [had] at e
  injection e with e
  subst e
  rw [bv_at l j hj] at hu
  injection hu with hu
  subst hu
  rw [add_none]
  exact hc j hj
end

section
variable {P : Program}
/-- 'append(v, x...)' where v is the call's own and x any byte slice. -/
theorem run_append_bs (w : World) (base : Nat) (t ty e : TypeId) (i : TypeInfo) (z : Value) (ht : P.underlying t = some (.slice e)) (hi : P.info? e = some i) (hz : i.zero = some z)
    (hsize : i.size = 1) (hby : i.bytes = 1) (hzs : z.cells.size = 1)
    (v : Value) (n : Nat) (xs : List Value) (hown : w.ownsRow base e 1 v n xs)
    {B : Nat} {A : Option Addr} {m c : Nat} {l : List UInt8} (hr : BS w B A m c l) (hb : n + m ≤ 140737488355328) (hbase : base ≤ w.heap.size) :
    ∃ v' w', (Builtin.append_ #[t, t] ty #[v, .slice A m c]).run P w = .ok v' w' ∧ w'.ownsRow base e 1 v' (n + m) (xs ++ bv l) ∧ w.grownBy w' v.ownBlock ∧ (v'.ownBlock = v.ownBlock ∨ v'.ownBlock = some w.heap.size) := by
  cases A with
  | some ad =>
    obtain ⟨v', w', h1, h2, h3, _, h5⟩ := run_append_own_at (P := P) w base t ty e i z 1 1 ht hi hz hsize hby hzs (by omega) v n xs hown ad m c (bv l) hr.news.1 (hr.news.2 ad rfl) (bv_one l) (by unfold maxLen; omega) (by omega) hbase
    exact ⟨v', w', h1, h2, h3, h5⟩
  | none =>
    have hc : c = 0 := hr.nil rfl
    subst hc
    have hm : m = 0 := by have := hr.cap; omega
    subst hm
    have hl : l = [] := hr.empty rfl
    subst hl
    refine ⟨v, w, ?_, by simpa [bv] using hown, World.grownBy.refl w _, .inl rfl⟩
    rcases hown.2 with ⟨rfl, rfl⟩ | ⟨g, cap, cur, rfl, _, _, hnc, _⟩
    · simp [Builtin.append_, run_underlying ht, sizeOf, typeInfo, hi, Builtin.lenOf, Builtin.firstCells]
    · simp [Builtin.append_, run_underlying ht, sizeOf, typeInfo, hi, Builtin.lenOf, Builtin.firstCells, hnc, storeCells]
theorem wp_append_bs {o : Oper} {a : Act} {K : Act → World → Prop} {Q : Exit → Act → World → Prop} (w : World) (s x : Operand) (t : TypeId)
    (ho : o.op = .call { callee := .builtin .append, args := #[s, x], argTypes := #[t, t] })
    (base : Nat) (e : TypeId) (i : TypeInfo) (z : Value) (ht : P.underlying t = some (.slice e)) (hi : P.info? e = some i) (hz : i.zero = some z)
    (hsize : i.size = 1) (hby : i.bytes = 1) (hzs : z.cells.size = 1)
    (v : Value) (n : Nat) (xs : List Value) (hs : a.eval s = v) (hown : w.ownsRow base e 1 v n xs)
    {B : Nat} {A : Option Addr} {m c : Nat} {l : List UInt8} (hx : a.eval x = .slice A m c) (hr : BS w B A m c l) (hb : n + m ≤ 140737488355328) (hbase : base ≤ w.heap.size)
    (h : ∀ v' w', w'.ownsRow base e 1 v' (n + m) (xs ++ bv l) → w.grownBy w' v.ownBlock → (v'.ownBlock = v.ownBlock ∨ v'.ownBlock = some w.heap.size) → K (a.put o.dst v') w') : o.wp P a w K Q := by
  obtain ⟨v', w', hrun, h2, h3, h4⟩ := run_append_bs (P := P) w base t o.type e i z ht hi hz hsize hby hzs v n xs hown hr hb hbase
  unfold Oper.wp execOp
  simp only [ho, resolve, invoke, builtin, Sem.run_bind, Sem.run_pure, Result.andThen_ok, List.map_toArray, List.map_cons, List.map_nil, hs, hx, hrun]
  exact h v' w' h2 h3 h4
theorem wpList_append_bs {ops : Array Oper} {rest : List Oper} {o : Oper} {a : Act} {Q : Exit → Act → World → Prop} (w : World) (hgd : o.guard = none) (s x : Operand) (t : TypeId)
    (ho : o.op = .call { callee := .builtin .append, args := #[s, x], argTypes := #[t, t] })
    (base : Nat) (e : TypeId) (i : TypeInfo) (z : Value) (ht : P.underlying t = some (.slice e)) (hi : P.info? e = some i) (hz : i.zero = some z)
    (hsize : i.size = 1) (hby : i.bytes = 1) (hzs : z.cells.size = 1)
    (v : Value) (n : Nat) (xs : List Value) (hs : a.eval s = v) (hown : w.ownsRow base e 1 v n xs)
    {B : Nat} {A : Option Addr} {m c : Nat} {l : List UInt8} (hx : a.eval x = .slice A m c) (hr : BS w B A m c l) (hb : n + m ≤ 140737488355328) (hbase : base ≤ w.heap.size)
    (h : ∀ v' w', w'.ownsRow base e 1 v' (n + m) (xs ++ bv l) → w.grownBy w' v.ownBlock → (v'.ownBlock = v.ownBlock ∨ v'.ownBlock = some w.heap.size) → wpList P ops Q rest (a.put o.dst v') w') : wpList P ops Q (o :: rest) a w :=
  wpList_plain hgd fun _ hK => wp_append_bs w s x t ho base e i z ht hi hz hsize hby hzs v n xs hs hown hx hr hb hbase fun v' w' h2 h3 h4 => hK _ _ (h v' w' h2 h3 h4)
end
theorem run_str {P : Program} {w : World} {B n c : Nat} {A : Option Addr} {l : List UInt8} (h : BS w B A n c l) (src dst e : TypeId) (hs : P.underlying src = some (.slice e)) (he : P.underlying e = some (.int .u8)) (hd : P.underlying dst = some .string) :
    (convert src dst (.slice A n c)).run P w = .ok (.string ⟨l.toArray⟩) w := by
  cases A with
  | none =>
    have hc : c = 0 := h.nil rfl
    subst hc
    have hm : n = 0 := by have := h.cap; omega
    subst hm
    have hl : l = [] := h.empty rfl
    subst hl
    rw [run_convert_bytes_string w src dst e none 0 0 hs he hd]
    rfl
  | some a =>
    obtain ⟨rfl, _⟩ := And.intro h.len trivial
    exact run_convert_bytes_back w src dst e a c l hs he hd (fun j hj => h.news.2 a rfl j _ (bv_at l j hj))
/-- Block g holds just the cells cs, of elements of type t, and may be written. -/
def Row (w : World) (g : Nat) (t : TypeId) (cs : Array Value) : Prop := w.heap[g]? = some (.cells cs t (0, 0))
section
variable {w w' : World} {g : Nat} {t : TypeId} {cs : Array Value}
theorem Row.lt (h : Row w g t cs) : g < w.heap.size := (Array.getElem?_eq_some_iff.1 h).1
theorem Row.cell (h : Row w g t cs) (i : Nat) : w.cell? ⟨g, i, none⟩ = cs[i]? := by
  unfold Row at h
  simp [World.cell?, h]
theorem Row.frozen (h : Row w g t cs) (i : Nat) : w.frozen? ⟨g, i, none⟩ = false := by
  unfold Row at h
  simp [World.frozen?, h]
theorem Row.new (w : World) (t : TypeId) (cs : Array Value) : Row (w.alloc (.cells cs t)) w.heap.size t cs := heap_alloc_new w _
theorem Row.drew (h : Row w g t cs) : Row w.drew g t cs := h
theorem Row.drewN (h : Row w g t cs) (n : Nat) : Row (w.drewN n) g t cs := h
theorem Row.alloc (h : Row w g t cs) (o : Obj) : Row (w.alloc o) g t cs := (Below.heap_alloc w o g h.lt).trans h
theorem Row.set_ (h : Row w g t cs) (i : Nat) (u : Value) : Row (w.setCell ⟨g, i, none⟩ u) g t (cs.setIfInBounds i u) := by
  unfold Row at h ⊢
  simp [World.setCell, Array.getElem?_modify, h]
theorem Row.far (h : Row w g t cs) {p : Addr} (hp : g ≠ p.block) (u : Value) : Row (w.setCell p u) g t cs := (Below.heap_setCell w p u g hp).trans h
theorem Row.below {B : Nat} (h : Row w g t cs) (hb : Below B w w') (hg : g < B) : Row w' g t cs := (hb.block g hg).trans h
theorem Row.grown {row : Option Nat} (h : Row w g t cs) (hb : w.grownBy w' row) (hg : some g ≠ row) : Row w' g t cs := (hb.block g h.lt hg).trans h
theorem Row.owns {base e : Nat} (h : Row w g e cs) (hb : base ≤ g) {n : Nat} (hn : n ≤ cs.size) (hm : cs.size ≤ maxLen) : w.ownsRow base e 1 (.slice (some ⟨g, 0, none⟩) n cs.size) n (cs.toList.take n) :=
  ⟨by simp; omega, .inr ⟨g, cs.size, cs, rfl, hb, h, hn, hm, by simp, by simp⟩⟩
end
theorem BS.one (w : World) (t : TypeId) (b : UInt8) : BS (w.alloc (.cells #[.int .u8 (b.toNat : Int)] t)) (w.heap.size + 1) (some ⟨w.heap.size, 0, none⟩) 1 1 [b] := by
  refine ⟨rfl, Nat.le_refl _, by decide, (fun e => by cases e), fun _ => ⟨w.heap.size, 0, rfl, Nat.lt_succ_self _, fun i hi => ?_⟩⟩
  obtain rfl : i = 0 := by simpa using hi
  rw [(Row.new w t _).cell]
  rfl
theorem BS.oneI (w : World) (t : TypeId) {v : Int} (b : UInt8) (h : (b.toNat : Int) = v) : BS (w.alloc (.cells #[.int .u8 v] t)) (w.heap.size + 1) (some ⟨w.heap.size, 0, none⟩) 1 1 [b] := by
  subst h
  exact BS.one w t b
theorem BS.lit (w : World) (t : TypeId) (l : List UInt8) (cs : Array Value) (h : cs = (bv l).toArray) (n : Nat) (hn : n = l.length) (hm : l.length ≤ maxLen) : BS (w.alloc (.cells cs t)) (w.heap.size + 1) (some ⟨w.heap.size, 0, none⟩) n n l := by
  subst h
  subst hn
  refine ⟨rfl, Nat.le_refl _, hm, (fun e => by cases e), fun _ => ⟨w.heap.size, 0, rfl, Nat.lt_succ_self _, fun i hi => ?_⟩⟩
  rw [(Row.new w t _).cell]
  simp [bv, hi]
theorem owns_mono {w : World} {base base' : Nat} {e : TypeId} {size n : Nat} {v : Value} {xs : List Value} (h : w.ownsRow base e size v n xs) (hb : base' ≤ base) : w.ownsRow base' e size v n xs := by
  obtain ⟨h1, h2⟩ := h
  refine ⟨h1, ?_⟩
  rcases h2 with h2 | ⟨g, cap, cur, hv, hg, hr⟩
  · exact .inl h2
  · exact .inr ⟨g, cap, cur, hv, Nat.le_trans hb hg, hr⟩
/-- n noughts. -/
def zer (n : Nat) : Array Value := Array.replicate n (.int .u8 0)
theorem zer_size (n : Nat) : (zer n).size = n := by simp [zer]
theorem zer_at (n i : Nat) (h : i < n) : (zer n)[i]? = some (.int .u8 0) := by simp [zer, h]
theorem run_makeB {P : Program} (t e : TypeId) (i : TypeInfo) (ht : P.underlying t = some (.slice e)) (hi : P.info? e = some i) (hz : i.zero = some (.int .u8 0)) (hsize : i.size = 1) (hby : i.bytes = 1)
    (kl kc : IntKind) (n : Nat) (h : n ≤ 281474976710656) (W : World) :
    (Instr.makeSlice t (.int kl (n : Int)) (.int kc (n : Int))).run P W = .ok (.slice (some ⟨W.heap.size, 0, none⟩) n n) (W.alloc (.cells (zer n) e)) := by
  rw [run_make (P := P) W t e i (.int .u8 0) ht hi hz kl kc n n (by omega) (Int.le_refl _) (by rw [hby]; omega) (by omega), hsize]
  have hm : madeCells (Value.int IntKind.u8 0).cells ((n : Int).toNat * 1) = zer n := by
    unfold madeCells zer
    apply Array.ext
    · simp
    · intro j h1 h2
      simp [Value.cells, Nat.mod_one]
  rw [hm, Int.toNat_natCast]
theorem info_byte : (Try.prog.info? 5).map (fun i => (i.zero, i.size, i.bytes)) = some (some (.int .u8 0), 1, 1) := by kernel_rfl
end Go.Proofs.Ytiehhoonfneccaa
