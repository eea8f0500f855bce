/- append on a slice without room; the splitter's New and Left; what a splitter's bytes come to, in plain words. Where all bytes take at most 2^47. -/
import Derived.Test.YtiehhoonfneccaaHD
import Derived.Deep.RegionLaw
import Derived.ArgAppend
namespace Go.Proofs.Ytiehhoonfneccaa
open Go.RowKit
/-- The slice's block is one of bytes. -/
def BT (w : World) (A : Option Addr) : Prop := ∀ a, A = some a → ∃ cs f, w.heap[a.block]? = some (.cells cs 5 f)
theorem BT.block {w w' : World} {A : Option Addr} (h : BT w A) (hk : ∀ k, k < w.heap.size → (∃ cs f, w.heap[k]? = some (.cells cs 5 f)) → w'.heap[k]? = w.heap[k]?) : BT w' A := by
  intro a ha
  obtain ⟨cs, f, hc⟩ := h a ha
  exact ⟨cs, f, (hk _ (Array.getElem?_eq_some_iff.1 hc).1 ⟨cs, f, hc⟩).trans hc⟩
theorem BT.ne {w : World} {A : Option Addr} (h : BT w A) {p : Nat} {t : TypeId} {cs : Array Value} (hr : Row w p t cs) (ht : t ≠ 5) : ∀ a, A = some a → a.block ≠ p := by
  intro a ha e
  obtain ⟨cs', f, hc⟩ := h a ha
  rw [e] at hc
  unfold Row at hr
  rw [hr] at hc
  injection hc with hc
  injection hc with _ h2 _
  exact ht h2
theorem BT.below {w w' : World} {A : Option Addr} (h : BT w A) (hb : Below w.heap.size w w') : BT w' A := h.block fun k hk _ => hb.block k hk
theorem BT.grown {w w' : World} {A : Option Addr} (h : BT w A) {p : Nat} {t : TypeId} {cs : Array Value} (hr : Row w p t cs) (ht : t ≠ 5) (hg : w.grownBy w' (some p)) : BT w' A :=
  h.block fun k hk ⟨cs', f, hc⟩ => hg.block k hk fun e => by
    have e2 : k = p := Option.some.inj e
    subst e2
    unfold Row at hr
    rw [hr] at hc
    injection hc with hc
    injection hc with _ h2 _
    exact ht h2
theorem BT.own {w : World} {base n : Nat} {A : Option Addr} {c : Nat} {xs : List Value} (h : w.ownsRow base 5 1 (.slice A n c) n xs) : BT w A := by
  intro a ha
  rcases h.2 with ⟨e, _⟩ | ⟨g, cap, cur, e, _, hk, _⟩
  · injection e with e _ _; rw [e] at ha; cases ha
  · injection e with e _ _
    rw [e] at ha
    injection ha with ha
    subst ha
    exact ⟨cur, _, hk⟩
theorem run_append_sw {w : World} {A A2 : Option Addr} {n m c2 : Nat} {l l2 : List UInt8} (h : SW w A n n l) (h2 : SW w A2 m c2 l2) (hb : n + m ≤ 140737488355328) (ty : TypeId) :
    ∃ A' c' w', (Builtin.append_ #[27, 27] ty #[.slice A n n, .slice A2 m c2]).run Try.prog w = .ok (.slice A' (n + m) c') w' ∧ SW w' A' (n + m) c' (l ++ l2) ∧ Below w.heap.size w w' ∧ (A' = A ∨ BT w' A') := by
  obtain ⟨i0, hi, hz0, hz1, hz2⟩ := info_parts info_byte
  have ht := Try.underlying27
  have hfin : ∀ {v' : Value} {w' : World}, w'.ownsRow w.heap.size 5 1 v' (n + m) (bv l ++ bv l2) → w.grownBy w' none → ∃ A' c', v' = .slice A' (n + m) c' ∧ SW w' A' (n + m) c' (l ++ l2) ∧ Below w.heap.size w w' ∧ (A' = A ∨ BT w' A') := by
    intro v' w' ho hg
    rw [← bv_append] at ho
    obtain ⟨A', c', rfl, hs⟩ := SW.of_own ho
    exact ⟨A', c', rfl, hs, (Below.refl _ _).grown hg (Nat.le_refl _) (fun k hk => by cases hk), .inr (BT.own ho)⟩
  rcases Nat.eq_zero_or_pos m with rfl | hm
  · have hl2 : l2 = [] := BS.empty h2 rfl
    subst hl2
    refine ⟨A, n, w, ?_, by simpa using h, Below.refl _ _, .inl rfl⟩
    simp [Builtin.append_, run_underlying ht, sizeOf, typeInfo, hi, Builtin.lenOf, Builtin.firstCells, storeCells]
    cases A2 <;> cases A <;> simp [storeCells, loadCells, loadCellsFrom]
  · obtain ⟨b2, o2, rfl, _, _⟩ := BS.at_ h2 hm
    cases A with
    | none =>
      have hn : n = 0 := BS.nil h rfl
      subst hn
      have hl : l = [] := BS.empty h rfl
      subst hl
      obtain ⟨v', w', h1, ho, hg, _⟩ := run_append_own (P := Try.prog) w w.heap.size 27 ty 5 i0 (.int .u8 0) 1 1 ht hi hz0 hz1 hz2 rfl (by omega) (.slice none 0 0) 0 [] (World.ownsRow_nil w _ _ _) ⟨b2, o2, none⟩ m c2 (bv l2) (BS.news h2).1 ((BS.news h2).2 _ rfl) (bv_one l2) (by unfold maxLen; omega) (by omega) (Nat.le_refl _)
      obtain ⟨A', c', rfl, hs⟩ := hfin (by simpa [bv] using ho) hg
      exact ⟨A', c', w', h1, hs⟩
    | some a =>
      obtain ⟨v', w', h1, ho, hg⟩ := run_append_arg_grows (P := Try.prog) w 27 ty 5 i0 (.int .u8 0) 1 1 ht hi hz0 hz1 hz2 rfl (by omega) a n n (bv l) (BS.news h).1 ((BS.news h).2 _ rfl) ⟨b2, o2, none⟩ m c2 (bv l2) (BS.news h2).1 ((BS.news h2).2 _ rfl) (by omega) (by unfold maxLen; omega) (by omega)
      obtain ⟨A', c', rfl, hs⟩ := hfin ho hg
      exact ⟨A', c', w', h1, hs⟩
theorem step_append_sw {ops : Array Oper} {o : Oper} {a : Act} {w : World} {K : Act → World → Prop} {Q : Exit → Act → World → Prop} {E : Prop} {A A2 : Option Addr} {n m c2 : Nat} {l l2 : List UInt8}
    (hg : o.guard = none) (s x : Operand) (hop : o.op = Op.call { callee := Callee.builtin Builtin.append, args := #[s, x], argTypes := #[27, 27] })
    (hs : a.eval s = .slice A n n) (hx : a.eval x = .slice A2 m c2) (h : SW w A n n l) (h2 : SW w A2 m c2 l2) (hb : n + m ≤ 140737488355328)
    (hK : ∀ A' c' w', SW w' A' (n + m) c' (l ++ l2) → Below w.heap.size w w' → (A' = A ∨ BT w' A') → K (a.put o.dst (.slice A' (n + m) c')) w') :
    if Region.wanted o (yielded ops a.tmps) = true then Oper.wp Try.prog o a w K Q else E := by
  have hw : Region.wanted o (yielded ops a.tmps) = true := by simp [Region.wanted, hg]
  rw [if_pos hw]
  obtain ⟨A', c', w', hrun, r1, r2, r3⟩ := run_append_sw h h2 hb o.type
  unfold Oper.wp
  simp [execOp, hop, resolve, invoke, builtin, hs, hx, hrun, Result.andThen]
  exact hK _ _ _ r1 r2 r3
/-- A frame. -/
structure Fr where
  V : Int
  F : Int
  S : Int
  O : Int
  L : Int
  body : List UInt8
/-- The frame at the head of bytes. -/
def frOf (l : List UInt8) : Fr := ⟨bI l 0, bI l 1, hS l, bI l 4, hL l, (l.drop 9).take (hL l).toNat⟩
/-- The error of the header at the head of bytes. -/
def erOf (ver : Int) (l : List UInt8) : Int := if getE l = 0 ∧ bI l 0 ≠ ver then 20 else getE l
/-- The frames of bytes, what is left, the error. -/
def spl (ver : Int) : Nat → List UInt8 → List Fr × List UInt8 × Int
  | 0, l => ([], l, 0)
  | k + 1, l =>
    if l.length < 9 then ([], l, 0)
    else if erOf ver l ≠ 0 then ([], [], erOf ver l)
    else if l.length < 9 + (hL l).toNat then ([], l, 0)
    else (frOf l :: (spl ver k (l.drop (9 + (hL l).toNat))).1, (spl ver k (l.drop (9 + (hL l).toNat))).2)
/-- A splitter in memory. -/
structure Spl (w : World) (p : Nat) (ver : Int) (l : List UInt8) (e : Int) (A : Option Addr) (c : Nat) : Prop where
  row : Row w p 82 #[.int .u8 ver, .slice A l.length c, .int .i64 e]
  bs : SW w A l.length c l
  ty : BT w A
theorem new_any (ver : Int) (w : World) : Calls Try.prog 24 #[.int .u8 ver] w fun e w' => e = .returned (.pointer (some ⟨w.heap.size, 0, none⟩)) ∧ Spl w' w.heap.size ver [] 0 none 0 ∧ Below w.heap.size w w' := by
  go_enter Try.func24, Try.ntmps24
  go_wp2_with fail
  go_ret
  exact ⟨rfl, ⟨Row.new _ _ _, SW.nil _, fun a ha => by cases ha⟩, below_new (Below.refl _ _) _⟩
theorem left_none (w : World) : Calls Try.prog 27 #[.pointer none] w fun e w' => e = .returned (.int .i64 0) ∧ w = w' := by
  go_enter Try.func27, Try.ntmps27
  go_wp2_with fail
  go_ret
  exact ⟨rfl, rfl⟩
theorem spl_cells {w : World} {p : Nat} {ver e : Int} {l : List UInt8} {A : Option Addr} {c : Nat} (h : Spl w p ver l e A c) : p < w.heap.size ∧ w.cell? ⟨p, 0, none⟩ = some (.int .u8 ver) ∧ w.cell? ⟨p, 1, none⟩ = some (.slice A l.length c) ∧ w.cell? ⟨p, 2, none⟩ = some (.int .i64 e) ∧
    w.frozen? ⟨p, 0, none⟩ = false ∧ w.frozen? ⟨p, 1, none⟩ = false ∧ w.frozen? ⟨p, 2, none⟩ = false := by
  refine ⟨h.row.lt, ?_, ?_, ?_, h.row.frozen 0, h.row.frozen 1, h.row.frozen 2⟩ <;> rw [h.row.cell] <;> rfl
theorem left_any {w : World} {p : Nat} {ver e : Int} {l : List UInt8} {A : Option Addr} {c : Nat} (h : Spl w p ver l e A c) : Calls Try.prog 27 #[.pointer (some ⟨p, 0, none⟩)] w fun e w' => e = .returned (.int .i64 (l.length : Int)) ∧ w = w' := by
  obtain ⟨q0, q1, q2, q3, _⟩ := spl_cells h
  go_enter Try.func27, Try.ntmps27
  go_wp2_with fail
  go_ret
  exact ⟨rfl, rfl⟩
/-- A frame's cells. -/
def frCells (f : Fr) (A : Option Addr) (c : Nat) : List Value := [.int .u8 f.V, .int .u8 f.F, .int .i16 f.S, .int .u8 f.O, .int .u32 f.L, .slice A f.body.length c]
/-- The cells of frames, whose bodies are the call's own. -/
def FrsIn (w : World) (base : Nat) : List Fr → List Value → Prop
  | [], xs => xs = []
  | f :: fs, xs => ∃ A c ys, xs = frCells f A c ++ ys ∧ w.ownsRow base 5 1 (.slice A f.body.length c) f.body.length (bv f.body) ∧ FrsIn w base fs ys
theorem FrsIn.snoc {w : World} {base : Nat} {f : Fr} {A : Option Addr} {c : Nat} (hf : w.ownsRow base 5 1 (.slice A f.body.length c) f.body.length (bv f.body)) : ∀ {fs : List Fr} {xs : List Value}, FrsIn w base fs xs → FrsIn w base (fs ++ [f]) (xs ++ frCells f A c)
  | [], xs, h => by
    obtain rfl : xs = [] := h
    exact ⟨A, c, [], by simp, hf, rfl⟩
  | g :: fs, xs, ⟨A', c', ys, e, h1, h2⟩ => ⟨A', c', ys ++ frCells f A c, by rw [e, List.append_assoc], h1, FrsIn.snoc hf h2⟩
/-- A row of another type that may be written is not the one that is owned. -/
theorem own_typed {w w' : World} {base e size n : Nat} {v : Value} {xs : List Value} {g : Nat} {t : TypeId} {cs : Array Value} (h : w.ownsRow base e size v n xs) (hg : w.grownBy w' (some g)) (hr : w.heap[g]? = some (.cells cs t (0, 0))) (ht : t ≠ e) : w'.ownsRow base e size v n xs := by
  refine h.kept hg ?_
  rcases h.2 with ⟨rfl, _⟩ | ⟨k, cap, cur, rfl, _, hk, _⟩
  · exact .inl rfl
  · refine .inr (fun e => ?_)
    simp [Value.ownBlock] at e
    subst e
    rw [hr] at hk
    injection hk with hk
    injection hk with _ h2 _
    exact ht h2
theorem FrsIn.typed {w w' : World} {base g : Nat} {t : TypeId} {cs : Array Value} (hg : w.grownBy w' (some g)) (hr : w.heap[g]? = some (.cells cs t (0, 0))) (ht : t ≠ 5) : ∀ {fs : List Fr} {xs : List Value}, FrsIn w base fs xs → FrsIn w' base fs xs
  | [], _, h => h
  | _ :: _, _, ⟨A, c, ys, e, h1, h2⟩ => ⟨A, c, ys, e, own_typed h1 hg hr ht, FrsIn.typed hg hr ht h2⟩
theorem own_below {w w' : World} {base n : Nat} {v : Value} {xs : List Value} {e : TypeId} {size : Nat} (h : w.ownsRow base e size v n xs) (hb : Below w.heap.size w w') : w'.ownsRow base e size v n xs := by
  obtain ⟨h1, h2⟩ := h
  refine ⟨h1, ?_⟩
  rcases h2 with h2 | ⟨g, cap, cur, hv, hg, hk, hr⟩
  · exact .inl h2
  · exact .inr ⟨g, cap, cur, hv, hg, (hb.block g (Array.getElem?_eq_some_iff.1 hk).1).trans hk, hr⟩
theorem FrsIn.below {w w' : World} {base : Nat} (hb : Below w.heap.size w w') : ∀ {fs : List Fr} {xs : List Value}, FrsIn w base fs xs → FrsIn w' base fs xs
  | [], _, h => h
  | _ :: _, _, ⟨A, c, ys, e, h1, h2⟩ => ⟨A, c, ys, e, own_below h1 hb, FrsIn.below hb h2⟩
/-- Frames in a row of the call's own. -/
structure Frs (w : World) (base : Nat) (v : Value) (fs : List Fr) (xs : List Value) : Prop where
  row : w.ownsRow base 60 6 v fs.length xs
  cells : FrsIn w base fs xs
theorem SW.grown_ne {w w' : World} {A : Option Addr} {n c : Nat} {l : List UInt8} {p : Nat} (h : SW w A n c l) (hne : ∀ a, A = some a → a.block ≠ p) (hg : w.grownBy w' (some p)) : SW w' A n c l :=
  ⟨BS.len h, BS.cap h, BS.max h, BS.nil h, fun hn => by
    obtain ⟨b, o, e, hb, hc⟩ := BS.at_ h hn
    have hp := hne _ e
    refine ⟨b, o, e, Nat.lt_of_lt_of_le hb hg.size, fun i hi => ?_⟩
    exact (World.cell?_of_block (a := ⟨b, o + i, none⟩) (hg.block b hb (fun x => hp (Option.some.inj x)))).trans (hc i hi)⟩
theorem set_grown (w : World) (p i : Nat) (v : Value) : w.grownBy (w.setCell ⟨p, i, none⟩ v) (some p) :=
  ⟨rfl, rfl, rfl, by simp [World.setCell], fun k _ hne => Below.heap_setCell _ _ _ _ (fun e => hne (by rw [e]))⟩
theorem below_grown {w w' : World} (h : Below w.heap.size w w') (r : Option Nat) : w.grownBy w' r := ⟨h.os, h.tape, h.output, h.size, fun k hk _ => h.block k hk⟩
theorem grown_trans {w w1 w2 : World} {p : Nat} (h : w.grownBy w1 (some p)) (h2 : w1.grownBy w2 (some p)) : w.grownBy w2 (some p) :=
  ⟨h2.os.trans h.os, h2.tape.trans h.tape, h2.output.trans h.output, Nat.le_trans h.size h2.size, fun k hk hne => (h2.block k (Nat.lt_of_lt_of_le hk h.size) hne).trans (h.block k hk hne)⟩
/-- A splitter whose bytes are set anew. -/
theorem Spl.set_ {w : World} {p : Nat} {ver e : Int} {l l' : List UInt8} {A A' : Option Addr} {c c' : Nat} (h : Row w p 82 #[.int .u8 ver, .slice A l.length c, .int .i64 e]) (hs : SW w A' l'.length c' l') (hty : BT w A') :
    Spl (w.setCell ⟨p, 1, none⟩ (.slice A' l'.length c')) p ver l' e A' c' :=
  ⟨h.set_ 1 _, hs.grown_ne (hty.ne h (by decide)) (set_grown _ _ _ _), hty.grown h (by decide) (set_grown _ _ _ _)⟩
theorem Spl.below {w w' : World} {p : Nat} {ver e : Int} {l : List UInt8} {A : Option Addr} {c : Nat} (h : Spl w p ver l e A c) (hb : Below w.heap.size w w') : Spl w' p ver l e A c :=
  ⟨h.row.below hb h.row.lt, h.bs.then_ hb, h.ty.below hb⟩
theorem Frs.below {w w' : World} {base : Nat} {v : Value} {fs : List Fr} {xs : List Value} (h : Frs w base v fs xs) (hb : Below w.heap.size w w') : Frs w' base v fs xs := ⟨own_below h.row hb, h.cells.below hb⟩
theorem Frs.set_ {w : World} {base p : Nat} {v : Value} {fs : List Fr} {xs : List Value} {cs : Array Value} (h : Frs w base v fs xs) (hr : Row w p 82 cs) (i : Nat) (u : Value) : Frs (w.setCell ⟨p, i, none⟩ u) base v fs xs :=
  ⟨own_typed h.row (set_grown w p i u) hr (by decide), FrsIn.typed (set_grown w p i u) hr (by decide) h.cells⟩
/-- Where a header may not be. -/
theorem err_end {w wr wB : World} {p : Nat} {ver x : Int} {r : List UInt8} {A : Option Addr} {c : Nat} {v : Value} {fs : List Fr} {xs : List Value} (nq : Nat) (hS : Spl wr p ver r 0 A c) (hF : Frs wr w.heap.size v fs xs) (hG : w.grownBy wr (some p)) (hB : Below wr.heap.size wr wB) :
    Frs (((wB.setCell ⟨p, 1, none⟩ (.slice none 0 0)).setCell ⟨p, 2, none⟩ (.int .i64 x)).drewN nq) w.heap.size v fs xs ∧ Spl (((wB.setCell ⟨p, 1, none⟩ (.slice none 0 0)).setCell ⟨p, 2, none⟩ (.int .i64 x)).drewN nq) p ver [] x none 0 ∧
      w.grownBy (((wB.setCell ⟨p, 1, none⟩ (.slice none 0 0)).setCell ⟨p, 2, none⟩ (.int .i64 x)).drewN nq) (some p) := by
  have h1 := hS.below hB
  have hr1 := h1.row.set_ 1 (.slice none 0 0)
  have hr2 := hr1.set_ 2 (.int .i64 x)
  refine ⟨(((hF.below hB).set_ h1.row 1 _).set_ hr1 2 _).below (below_drewN (Below.refl _ _) _), ⟨hr2, SW.nil _, fun a ha => by cases ha⟩, ?_⟩
  exact grown_trans (grown_trans (grown_trans (grown_trans hG (below_grown hB _)) (set_grown _ _ _ _)) (set_grown _ _ _ _)) (below_grown (below_drewN (Below.refl _ _) _) _)
theorem grown_own {w W w' : World} {p : Nat} {base size n : Nat} {e : TypeId} {v : Value} {xs : List Value} (h : w.grownBy W (some p)) (ho : W.ownsRow base e size v n xs) (hb : w.heap.size ≤ base) (hg : W.grownBy w' v.ownBlock) : w.grownBy w' (some p) :=
  ⟨hg.os.trans h.os, hg.tape.trans h.tape, hg.output.trans h.output, Nat.le_trans h.size hg.size, fun k hk hne => (hg.block k (Nat.lt_of_lt_of_le hk h.size) (fun x => by have := (ho.lt k x.symm).1; omega)).trans (h.block k hk hne)⟩
/-- What an owned row's growth leaves as it was: another row. -/
theorem grown_typed {w w' : World} {base size n : Nat} {e : TypeId} {v : Value} {xs : List Value} (ho : w.ownsRow base e size v n xs) (hg : w.grownBy w' v.ownBlock) {k : Nat} {t : TypeId} {cs : Array Value} {f : Nat × Nat} (hk : w.heap[k]? = some (.cells cs t f)) (ht : t ≠ e) : w'.heap[k]? = w.heap[k]? := by
  refine hg.block k (Array.getElem?_eq_some_iff.1 hk).1 (fun x => ?_)
  rcases ho.2 with ⟨rfl, _⟩ | ⟨g, cap, cur, rfl, _, hh, _⟩
  · simp [Value.ownBlock] at x
  · simp [Value.ownBlock] at x
    subst x
    rw [hk] at hh
    injection hh with hh
    injection hh with _ h2 _
    exact ht h2
theorem Spl.own {w w' : World} {p : Nat} {ver e : Int} {l : List UInt8} {A : Option Addr} {c : Nat} (h : Spl w p ver l e A c) {base n : Nat} {v : Value} {xs : List Value} (ho : w.ownsRow base 60 6 v n xs) (hg : w.grownBy w' v.ownBlock) : Spl w' p ver l e A c := by
  refine ⟨(grown_typed ho hg h.row (by decide)).trans h.row, ⟨BS.len h.bs, BS.cap h.bs, BS.max h.bs, BS.nil h.bs, fun hn => ?_⟩, h.ty.block fun k _ ⟨cs, f, hc⟩ => grown_typed ho hg hc (by decide)⟩
  obtain ⟨b, o, e, hb, hc⟩ := BS.at_ h.bs hn
  obtain ⟨cs, f, hk⟩ := h.ty _ e
  refine ⟨b, o, e, Nat.lt_of_lt_of_le hb hg.size, fun i hi => ?_⟩
  exact (World.cell?_of_block (a := ⟨b, o + i, none⟩) (grown_typed ho hg hk (by decide))).trans (hc i hi)
theorem own_own {w w' : World} {base base2 n n2 : Nat} {v v2 : Value} {xs xs2 : List Value} (h : w.ownsRow base2 5 1 v2 n2 xs2) (ho : w.ownsRow base 60 6 v n xs) (hg : w.grownBy w' v.ownBlock) : w'.ownsRow base2 5 1 v2 n2 xs2 := by
  obtain ⟨h1, h2⟩ := h
  refine ⟨h1, ?_⟩
  rcases h2 with h2 | ⟨g, cap, cur, hv, hgb, hk, hr⟩
  · exact .inl h2
  · exact .inr ⟨g, cap, cur, hv, hgb, (grown_typed ho hg hk (by decide)).trans hk, hr⟩
theorem FrsIn.own {w w' : World} {base base2 n : Nat} {v : Value} {zs : List Value} (ho : w.ownsRow base2 60 6 v n zs) (hg : w.grownBy w' v.ownBlock) : ∀ {fs : List Fr} {xs : List Value}, FrsIn w base fs xs → FrsIn w' base fs xs
  | [], _, h => h
  | _ :: _, _, ⟨A, c, ys, e, h1, h2⟩ => ⟨A, c, ys, e, own_own h1 ho hg, FrsIn.own ho hg h2⟩
theorem info_frame : (Try.prog.info? 60).map (fun i => (i.zero.map (·.cells.size), i.size, i.bytes)) = some (some 6, 6, 40) := by kernel_rfl
/-- One frame more. -/
theorem run_append_fr {w : World} {base : Nat} {v : Value} {fs : List Fr} {xs : List Value} (hF : Frs w base v fs xs) (f : Fr) (A : Option Addr) (c g : Nat) (hg : Row w g 60 (frCells f A c).toArray) (hb : base ≤ w.heap.size) (hn : fs.length ≤ 1099511627776) (hown : w.ownsRow base 5 1 (.slice A f.body.length c) f.body.length (bv f.body)) (ty : TypeId) :
    ∃ v' w', (Builtin.append_ #[51, 51] ty #[v, .slice (some ⟨g, 0, none⟩) 1 1]).run Try.prog w = .ok v' w' ∧ Frs w' base v' (fs ++ [f]) (xs ++ frCells f A c) ∧ w.grownBy w' v.ownBlock := by
  obtain ⟨i, hi⟩ : ∃ i, Try.prog.info? 60 = some i := by
    have := info_frame
    cases h : Try.prog.info? 60 with
    | none => rw [h] at this; cases this
    | some i => exact ⟨i, rfl⟩
  have hif := info_frame
  rw [hi] at hif
  simp only [Option.map_some, Option.some.injEq, Prod.mk.injEq] at hif
  obtain ⟨hz, hsz, hby⟩ := hif
  obtain ⟨z, hz1, hz2⟩ := Option.map_eq_some_iff.1 hz
  obtain ⟨v', w', h1, ho, hgr, _⟩ := run_append_own (P := Try.prog) w base 51 ty 60 i z 6 40 Try.underlying51 hi hz1 hsz hby hz2 (by omega) v fs.length xs hF.row ⟨g, 0, none⟩ 1 1 (frCells f A c) rfl
    (fun j u hj => by rw [add_none, Nat.zero_add, hg.cell]; simpa using hj) (by intro u hu; simp [frCells] at hu; rcases hu with rfl | rfl | rfl | rfl | rfl | rfl <;> rfl) (by unfold maxLen; omega) (by omega) hb
  refine ⟨v', w', h1, ⟨by simpa using ho, FrsIn.snoc (own_own hown hF.row hgr) (FrsIn.own hF.row hgr hF.cells)⟩, hgr⟩
end Go.Proofs.Ytiehhoonfneccaa
