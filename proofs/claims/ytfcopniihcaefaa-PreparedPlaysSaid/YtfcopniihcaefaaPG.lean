/- prepared: Put. Of at most 2^39 entries, 2^40 keys. -/
import Derived.Test.YtfcopniihcaefaaPF
import Derived.Maps.AppendAt
import Derived.StillTailTactics
import Derived.Deep.DeepCutAuto
namespace Go.Proofs.Ytfcopniihcaefaa
open Go.RowKit
/-- A cache: its most, its row. -/
structure CA (w : World) (base p m : Nat) (v : Value) (es : List En) : Prop where
  row : Row w p 57 #[.int .i64 (m : Int), v]
  el : EL w base v es
  ks : ∀ e ∈ es, KO w base e
  lt : p < base
  le : base ≤ w.heap.size
/-- Nothing but the cache's block and its row may have been written. -/
structure Kp (w w' : World) (p : Nat) (v : Value) : Prop where
  os : w'.os = w.os
  tape : w'.tape = w.tape
  output : w'.output = w.output
  size : w.heap.size ≤ w'.heap.size
  block : ∀ k, k < w.heap.size → k ≠ p → some k ≠ v.ownBlock → w'.heap[k]? = w.heap[k]?
theorem Kp.of_grown {w w' : World} {v : Value} (h : w.grownBy w' v.ownBlock) (p : Nat) : Kp w w' p v := ⟨h.os, h.tape, h.output, h.size, fun k hk _ hv => h.block k hk hv⟩
theorem Kp.of_below {w w' : World} (h : Below w.heap.size w w') (p : Nat) (v : Value) : Kp w w' p v := ⟨h.os, h.tape, h.output, h.size, fun k hk _ _ => h.block k hk⟩
theorem Kp.set {w : World} (p i : Nat) (u v : Value) : Kp w (w.setCell ⟨p, i, none⟩ u) p v := ⟨rfl, rfl, rfl, by simp, fun k _ hp _ => Below.heap_setCell w ⟨p, i, none⟩ u k hp⟩
theorem Kp.then_ {a w w' : World} {p : Nat} {v v1 : Value} (h : Kp a w p v) (k : Kp w w' p v1) (hv : v1.ownBlock = v.ownBlock ∨ ∀ g, v1.ownBlock = some g → a.heap.size ≤ g) : Kp a w' p v :=
  ⟨k.os.trans h.os, k.tape.trans h.tape, k.output.trans h.output, Nat.le_trans h.size k.size, fun i hi hp hr => (k.block i (Nat.lt_of_lt_of_le hi h.size) hp (by
    rcases hv with hv | hv
    · rw [hv]; exact hr
    · intro e
      have := hv i e.symm
      omega)).trans (h.block i hi hp hr)⟩
theorem Kp.below {w w' : World} {base p : Nat} {v : Value} {es : List En} (h : Kp w w' p v) (hel : EL w base v es) {B : Nat} (hB : B ≤ base) (hp : B ≤ p) (hbs : B ≤ w.heap.size) : Below B w w' :=
  ⟨h.os, h.tape, h.output, h.size, fun k hk => h.block k (by omega) (by omega) (fun e => by
    have := (World.ownsRow.lt hel k e.symm).1
    omega)⟩
theorem EL.run_snoc {w : World} {base g : Nat} {v : Value} {es : List En} (h : EL w base v es) (e : En) (hg : Row w g 31 (enCells e).toArray) (hb : base ≤ w.heap.size) (hn : es.length ≤ 549755813888) (ty : TypeId) :
    ∃ v' w', (Builtin.append_ #[48, 48] ty #[v, .slice (some ⟨g, 0, none⟩) 1 1]).run Try.prog w = .ok v' w' ∧ EL w' base v' (es ++ [e]) ∧ w.grownBy w' v.ownBlock ∧ (v'.ownBlock = v.ownBlock ∨ v'.ownBlock = some w.heap.size) := by
  obtain ⟨i, hi, hz, hsz, hby⟩ := info_en3
  obtain ⟨v', w', h1, hown, hgr, _, hat⟩ := run_append_own_at (P := Try.prog) w base 48 ty 31 i en0.v 3 56 Try.underlying48 hi hz hsz hby rfl (by omega) v es.length (es.flatMap enCells) h ⟨g, 0, none⟩ 1 1 (enCells e) rfl
    (fun j u hj => by rw [add_none, Nat.zero_add, hg.cell]; simpa using hj) (by intro u hu; simp [enCells] at hu; rcases hu with rfl | rfl | rfl <;> rfl) (by unfold maxLen; omega) (by omega) hb
  exact ⟨v', w', h1, by unfold EL; simpa using hown, hgr, hat⟩
theorem Row.own {w w' : World} {base e size n : Nat} {v : Value} {xs : List Value} {p : Nat} {t : TypeId} {cs : Array Value} (h : Row w p t cs) (ho : w.ownsRow base e size v n xs) (hp : p < base) (hg : w.grownBy w' v.ownBlock) : Row w' p t cs :=
  (hg.block p h.lt (fun x => by have := (ho.lt p x.symm).1; omega)).trans h
theorem KO.el {w w' : World} {base base2 : Nat} {v : Value} {es : List En} {e : En} (h : KO w base e) (hel : EL w base2 v es) (hg : w.grownBy w' v.ownBlock) : KO w' base e := by
  refine ⟨⟨h.row.1, ?_⟩, h.rng⟩
  rcases h.row.2 with h1 | ⟨k, cap, cur, hv, hb, hk, hr⟩
  · exact .inl h1
  · exact .inr ⟨k, cap, cur, hv, hb, (grown_typed hel hg hk (by decide)).trans hk, hr⟩
theorem KO.set {w : World} {base p i : Nat} {e : En} (h : KO w base e) (hp : p < base) (u : Value) : KO (w.setCell ⟨p, i, none⟩ u) base e := ⟨own_far h.row hp u, h.rng⟩
theorem CA.store {w : World} {base p m : Nat} {v v0 : Value} {es : List En} (hr : Row w p 57 #[.int .i64 (m : Int), v0]) (hel : EL w base v es) (hk : ∀ e ∈ es, KO w base e) (hp : p < base) (hb : base ≤ w.heap.size) : CA (w.setCell ⟨p, 1, none⟩ v) base p m v es :=
  ⟨hr.set_ 1 v, own_far hel hp v, fun e he => (hk e he).set hp v, hp, by simpa using hb⟩
theorem KO.zero (w : World) (base : Nat) : KO w base en0 := ⟨World.ownsRow_nil _ _ _ _, fun z hz => absurd hz (by simp [en0])⟩
theorem CA.new_ {w : World} {base p m : Nat} {v : Value} {es : List En} (h : CA w base p m v es) (o : Obj) : CA (w.alloc o) base p m v es :=
  ⟨h.row.alloc o, own_below h.el (below_new (Below.refl _ _) o), fun e he => (h.ks e he).below (below_new (Below.refl _ _) o), h.lt, Nat.le_trans h.le (below_new (Below.refl _ _) o).size⟩
theorem CA.drew {w : World} {base p m : Nat} {v : Value} {es : List En} (h : CA w base p m v es) : CA w.drew base p m v es := ⟨h.row, h.el, fun e he => ⟨(h.ks e he).row, (h.ks e he).rng⟩, h.lt, h.le⟩
theorem CA.below {w w' : World} {base p m : Nat} {v : Value} {es : List En} (h : CA w base p m v es) (hb : Below w.heap.size w w') : CA w' base p m v es :=
  ⟨h.row.below hb h.row.lt, own_below h.el hb, fun e he => (h.ks e he).below hb, h.lt, Nat.le_trans h.le hb.size⟩
theorem Row.two {w : World} {p : Nat} {ty : TypeId} {a b : Value} (h : Row w p ty #[a, b]) : w.cell? ⟨p, 0, none⟩ = some a ∧ w.cell? ⟨p, 1, none⟩ = some b ∧ w.frozen? ⟨p, 1, none⟩ = false ∧ p < w.heap.size := by
  have h0 := h.cell 0
  have h1 := h.cell 1
  simp only [List.getElem?_toArray, List.getElem?_cons_zero, List.getElem?_cons_succ] at h0 h1
  exact ⟨h0, h1, h.frozen 1, h.lt⟩
theorem EL.form {w : World} {base : Nat} {v : Value} {es : List En} (h : EL w base v es) : ∃ A c, v = .slice A es.length c := by
  rcases h.cases with ⟨rfl, rfl⟩ | ⟨g, cap, rfl, _⟩
  · exact ⟨_, _, rfl⟩
  · exact ⟨_, _, rfl⟩
theorem EL.some_ {w : World} {base : Nat} {v : Value} {es : List En} (N : Nat) (hN : es.length = N) (h : EL w base v es) (hn : 0 < N) : ∃ g cap, v = .slice (some ⟨g, 0, none⟩) N cap ∧ EB w base g N cap es := by
  subst hN
  rcases h.cases with ⟨_, h0⟩ | h
  · rw [h0] at hn; exact absurd hn (by simp)
  · exact h
theorem CA.lay {w w' : World} {base p m g N cap : Nat} {es es' : List En} (h : CA w base p m (.slice (some ⟨g, 0, none⟩) N cap) es) (hE : EB w' base g N cap es') (hg : w.grownBy w' (some g)) (hk : ∀ x ∈ es', KO w base x) : CA w' base p m (.slice (some ⟨g, 0, none⟩) N cap) es' :=
  ⟨h.row.own h.el h.lt hg, hE.el, fun x hx => (hk x hx).el h.el hg, h.lt, Nat.le_trans h.le hg.size⟩
theorem CA.eb {w : World} {base p m g N cap : Nat} {es : List En} (h : CA w base p m (.slice (some ⟨g, 0, none⟩) N cap) es) (hN : es.length = N) : EB w base g N cap es := by
  have := h.el
  unfold EL at this
  rwa [hN] at this
theorem Kp.drew {w w' : World} {p : Nat} {v : Value} (h : Kp w w' p v) : Kp w w'.drew p v := ⟨h.os, h.tape, h.output, h.size, h.block⟩
theorem US.drew {w : World} {B n c : Nat} {A : Option Addr} {zs : List Nat} (h : US w B A n c zs) : US w.drew B A n c zs := ⟨h.len, h.cap, h.max, h.rng, h.nil, h.at_⟩
theorem own_is (t i : List UInt8) (A : Option Addr) (n c : Nat) (ks : List Nat) (w : World) (hus : US w w.heap.size A n c ks) (hn : n ≤ 1099511627776) :
    Calls Try.prog 22 #[.agg #[.string ⟨t.toArray⟩, .string ⟨i.toArray⟩, .slice A n c]] w fun r w' => ∃ A' c', r = .returned (.agg #[.string ⟨t.toArray⟩, .string ⟨i.toArray⟩, .slice A' n c']) ∧ KO w' w.heap.size ⟨t, i, A', n, c', ks⟩ ∧ Below w.heap.size w w' := by
  refine (own_any ⟨t, i, A, n, c, ks⟩ w hus hn).mono ?_
  rintro _ w7 ⟨⟨t', i', A', n', c', ks'⟩, rfl, ht, hi, hks, hnn, hko, hb7⟩
  simp only at ht hi hks hnn
  subst ht
  subst hi
  subst hks
  subst hnn
  exact ⟨A', c', rfl, hko, hb7⟩
theorem KO.mono {w : World} {base base2 : Nat} {e : En} (h : KO w base2 e) (hb : base ≤ base2) : KO w base e := ⟨h.row.mono hb, h.rng⟩
/-- Entries moved one place up. -/
theorem up_list {es : List En} {z : En} {N : Nat} (hN : es.length + 1 = N) : ∃ x, x ∈ es ++ [z] ∧ (es ++ [z]).take (N - 1) = es ∧ (es ++ [z]).take 1 ++ es ++ (es ++ [z]).drop (1 + es.length) = x :: es := by
  subst hN
  have hd : (es ++ [z]).drop (1 + es.length) = [] := List.drop_of_length_le (by simp; omega)
  refine ⟨(es ++ [z])[0]'(by simp), List.getElem_mem _, by simp, ?_⟩
  rw [hd]
  cases es with
  | nil => rfl
  | cons a r => simp
set_option maxHeartbeats 1000000 in
theorem put_any {base p m B : Nat} {v : Value} {es : List En} (e : En) (w : World) (hc : CA w base p m v es) (hus : US w B e.A e.n e.c e.ks) (hB : B ≤ p) (hn : e.n ≤ 1099511627776) (hlen : es.length ≤ 549755813888) :
    Calls Try.prog 9 #[.pointer (some ⟨p, 0, none⟩), e.v] w fun r w' => r = .returned (.tuple #[]) ∧ ∃ v' e', CA w' base p m v' ((e' :: es.filter fun x => !(x.t == e.t || x.i == e.i)).take m) ∧ e'.t = e.t ∧ e'.i = e.i ∧ e'.ks = e.ks ∧ Kp w w' p v ∧ (v'.ownBlock = v.ownBlock ∨ ∀ g, v'.ownBlock = some g → w.heap.size ≤ g) := by
  obtain ⟨t, i, A, n, c, ks⟩ := e
  have hw := hc.lt
  have hle := hc.le
  have hrow := hc.row
  have hel := hc.el
  unfold En.v
  simp only at hus hn ⊢
  have b0 := below_new (Below.refl w.heap.size w) (.cells #[.string ⟨t.toArray⟩, .string ⟨i.toArray⟩, .slice A n c] 31)
  obtain ⟨w0, hw0⟩ : ∃ w0, w0 = w.alloc (.cells #[.string ⟨t.toArray⟩, .string ⟨i.toArray⟩, .slice A n c] 31) := ⟨_, rfl⟩
  have hq := Row.new w 31 #[.string ⟨t.toArray⟩, .string ⟨i.toArray⟩, .slice A n c]
  rw [← hw0] at b0 hq
  have hq0 := hq.cell 0
  have hq1 := hq.cell 1
  have hr0 := hrow.below b0 hrow.lt
  have hp1 := hr0.cell 1
  simp only [List.getElem?_toArray, List.getElem?_cons_zero, List.getElem?_cons_succ] at hq0 hq1 hp1
  have hqv : some w.heap.size ≠ v.ownBlock := fun x => by have := (World.ownsRow.lt hel w.heap.size x.symm).2; omega
  have HD := Lib.hid (delf w.heap.size t i w0 (own_below hel b0) hq0 hq1 hq.lt hqv (by omega))
  have HC := Lib.hid (hc.below b0)
  have HUS := Lib.hid hus
  have HEL := Lib.hid hel
  have HB0 := Lib.hid b0
  have HQ := Lib.hid hq
  have HS0 := Lib.hid b0.size
  obtain ⟨es1, he1⟩ : ∃ es1, (es.filter fun x => !(x.t == t || x.i == i)) = es1 := ⟨_, rfl⟩
  have hl1 : es1.length ≤ es.length := by rw [← he1]; exact List.length_filter_le _ _
  have hsub : ∀ x ∈ es1, x ∈ es := fun x hx => by rw [← he1] at hx; exact (List.mem_filter.1 hx).1
  rw [he1] at HD ⊢
  have HSUB := Lib.hid hsub
  have HQV := Lib.hid hqv
  clear hc hus hrow hel hq hq0 hq1 hr0 hqv b0 he1 hsub
  go_enter Try.func9, Try.ntmps9
  subst hw0
  go_wp2_with fail
  refine HD.out.mono ?_
  rintro _ w1 ⟨v1, rfl, hel1, hvb1, hg1⟩
  obtain ⟨A1, cap1, rfl⟩ := hel1.form
  have hcw1 := HC.out.row.own HC.out.el HC.out.lt hg1
  have hle1 : base ≤ w1.heap.size := Nat.le_trans HC.out.le hg1.size
  have hc1 := CA.store hcw1 hel1 (fun x hx => (HC.out.ks x (HSUB.out x hx)).el HC.out.el hg1) hw hle1
  have hk1 := ((Kp.of_below (HB0.out) p v).then_ (Kp.of_grown hg1 p) (.inl rfl)).then_ (Kp.set (w := w1) p 1 (.slice A1 es1.length cap1) v) (.inl rfl)
  have HQ1 := Lib.hid ((HQ.out.grown hg1 HQV.out).far (p := ⟨p, 1, none⟩) (by simp; omega) (.slice A1 es1.length cap1))
  obtain ⟨a0, a1, a2, a3⟩ := hcw1.two
  obtain ⟨b0, b1, b2, b3⟩ := hc1.row.two
  clear hp1 HD
  obtain ⟨w2, hw2⟩ : ∃ w2, w1.setCell ⟨p, 1, none⟩ (.slice A1 es1.length cap1) = w2 := ⟨_, rfl⟩
  rw [hw2] at hc1 hk1 HQ1 b0 b1 b2 b3
  obtain ⟨v2, w3, hrun, hel3, hg3, hvb3⟩ := EL.run_snoc (hc1.new_ (.cells #[.string ⟨[].toArray⟩, .string ⟨[].toArray⟩, .slice none 0 0] 31)).el en0 (Row.new w2 31 (enCells en0).toArray) (Nat.le_trans hc1.le (below_new (Below.refl _ _) _).size) (by omega) 48
  obtain ⟨N, hN⟩ : ∃ N, es1.length + 1 = N := ⟨_, rfl⟩
  have hN1 : 1 ≤ N := by omega
  obtain ⟨g2, cap2, rfl, hEB3⟩ := hel3.some_ N (by simpa using hN) (by omega)
  rw [show w2.heap.size = w1.heap.size by rw [← hw2]; simp] at hrun
  have HR := Lib.hid hrun
  have hcc := hc1.new_ (.cells #[.string ⟨[].toArray⟩, .string ⟨[].toArray⟩, .slice none 0 0] 31)
  have hc3 := CA.store (hcc.row.own hcc.el hcc.lt hg3) hel3 (fun x hx => by
    rcases List.mem_append.1 hx with hx | hx
    · exact (hcc.ks x hx).el hcc.el hg3
    · rw [List.mem_singleton.1 hx]; exact KO.zero _ _) hw (Nat.le_trans hcc.le hg3.size)
  obtain ⟨c0, c1, c2, c3⟩ := hc3.row.two
  have hk3 := ((hk1.then_ (Kp.of_below (below_new (Below.refl w2.heap.size w2) (.cells #[.string ⟨[].toArray⟩, .string ⟨[].toArray⟩, .slice none 0 0] 31)) p v) (.inl rfl)).then_ (Kp.of_grown hg3 p) (.inl hvb1)).then_ (Kp.set (w := w3) p 1 (.slice (some ⟨g2, 0, none⟩) N cap2) v) (.inl rfl)
  have HQ3 := Lib.hid (((HQ1.out.alloc (.cells #[.string ⟨[].toArray⟩, .string ⟨[].toArray⟩, .slice none 0 0] 31)).grown hg3 (by rw [hvb1]; exact HQV.out)).far (p := ⟨p, 1, none⟩) (by simp; omega) (.slice (some ⟨g2, 0, none⟩) N cap2))
  obtain ⟨d0, d1, d2, d3⟩ := (hcc.row.own hcc.el hcc.lt hg3).two
  have hvb : (Value.slice (some ⟨g2, 0, none⟩) N cap2).ownBlock = v.ownBlock ∨ ∀ g, (Value.slice (some ⟨g2, 0, none⟩) N cap2).ownBlock = some g → w.heap.size ≤ g := by
    rcases hvb3 with h | h
    · exact .inl (h.trans hvb1)
    · refine .inr (fun g hg => ?_)
      rw [hg] at h
      injection h with h
      have := hk1.size
      rw [h]
      simp
      omega
  have HVB := Lib.hid hvb
  have HQG := Lib.hid (show w.heap.size ≠ g2 by
    intro e
    rcases hvb3 with h | h
    · refine HQV.out ?_
      rw [← hvb1, ← h, e]
      rfl
    · simp [Value.ownBlock] at h
      have := HQ1.out.lt
      omega)
  clear hcc hg3 hvb3 hrun hel3 hc1 hk1 HQ1 hvb
  subst hw2
  go_upto_region 3 with fail
  go_upto_region 4 with (at_builtin; refine Lib.wpList_append_run _ rfl _ _ _ _ rfl _ _ rfl rfl _ _ HR.out ?_)
  clear HR a0 a1 a2 a3 b0 b1 b2 b3 d0 d1 d2 d3
  obtain ⟨w5, hw5⟩ : ∃ w5, w3.setCell ⟨p, 1, none⟩ (.slice (some ⟨g2, 0, none⟩) N cap2) = w5 := ⟨_, rfl⟩
  rw [hw5] at hc3 hk3 HQ3 c0 c1 c2 c3 ⊢
  have hEB5 : EB w5 base g2 N cap2 (es1 ++ [en0]) := by
    have := hc3.el
    unfold EL at this
    unfold EB
    rwa [show (es1 ++ [en0]).length = N by simpa using hN] at this
  clear hEB3 hw5
  have HC3 := Lib.hid hc3
  have HK3 := Lib.hid hk3
  clear hc3 hk3
  go_cut [] from 25 to 34 (fun wx => ∃ x, CA wx base p m (.slice (some ⟨g2, 0, none⟩) N cap2) (x :: es1) ∧ Kp w wx p v ∧ Row wx w.heap.size 31 #[.string ⟨t.toArray⟩, .string ⟨i.toArray⟩, .slice A n c])
  case first =>
    obtain ⟨_, _, hbg, hNc, hcm⟩ := hEB5.obj
    unfold maxLen at hcm
    obtain ⟨wd, hwd⟩ : ∃ wd, w5.drew = wd := ⟨_, rfl⟩
    have hcd := HC3.out.drew
    have hkd := HK3.out.drew
    have hqd := HQ3.out.drew
    rw [hwd] at hcd hkd hqd
    have hEBd := hcd.eb (by simpa using hN)
    obtain ⟨c0, c1, c2, c3⟩ := hcd.row.two
    have HCd := Lib.hid hcd
    have HKd := Lib.hid hkd
    have HQd := Lib.hid hqd
    clear hcd hkd hqd hEB5
    have hz1 : (1 : Int) ≤ (N : Int) := by omega
    have hz2 : N - 1 ≤ cap2 - 1 := by omega
    have hz3 : ¬ N < 1 := by omega
    have hz4 : 1 ≤ cap2 := by omega
    by_cases hc1 : cap2 = 1
    · subst hc1
      obtain rfl : N = 1 := by omega
      have hcp : ∀ ty, (Builtin.copy_ #[48, 48] ty #[.slice (some ⟨g2, 0, none⟩) 0 0, .slice (some ⟨g2, 0, none⟩) 1 1]).run Try.prog wd = .ok (goInt 0) wd := fun ty =>
        run_copy_en wd ty g2 0 0 0 g2 0 1 1 [] rfl ⟨fun k hk => absurd hk (by simp), fun k hk => absurd hk (by simp), fun k hk => absurd hk (by simp)⟩ (fun j hj => absurd hj (by simp)) (fun j hj => absurd hj (by simp))
      obtain rfl : es1 = [] := List.length_eq_zero_iff.1 (by omega)
      have HF := Lib.hid (show CA wd base p m (.slice (some ⟨g2, 0, none⟩) 1 1) (en0 :: []) from HCd.out)
      go_still_tail 9, (by kernel_rfl)
      change wpList _ _ _ _ _ w5.drew
      rw [hwd]
      go_wp2_with fail
      go_meet
      exact ⟨_, HF.out, HKd.out, HQd.out⟩
    · have hc2 : 1 ≠ cap2 := fun e => hc1 e.symm
      obtain ⟨x, hxm, htk, hxl⟩ := up_list (z := en0) hN
      have hEc := hEBd.cut (N - 1) (by omega)
      rw [htk] at hEc
      have hcp : ∀ ty, (Builtin.copy_ #[48, 48] ty #[.slice (some ⟨g2, 3, none⟩) (N - 1) (cap2 - 1), .slice (some ⟨g2, 0, none⟩) N cap2]).run Try.prog wd = .ok (goInt es1.length) (wd.setCells g2 3 (es1.flatMap enCells)) := fun ty =>
        run_copy_en wd ty g2 3 _ _ g2 0 _ _ es1 (by rw [show Nat.min N (N - 1) = N - 1 from Nat.min_eq_right (by omega)]; omega) hEc.ents (fun j hj => hEBd.is _ (by omega)) (fun j hj => hEBd.fro _)
      obtain ⟨hl1, hl2⟩ := hEBd.lay 1 3 es1 rfl (by omega)
      rw [hxl] at hl1
      have HF := Lib.hid (HCd.out.lay hl1 hl2 (fun y hy => by
        rcases List.mem_cons.1 hy with rfl | hy
        · exact HCd.out.ks y hxm
        · exact HCd.out.ks y (List.mem_append_left _ hy)))
      have HKf := Lib.hid (HKd.out.then_ (Kp.of_grown (v := .slice (some ⟨g2, 0, none⟩) N cap2) hl2 p) HVB.out)
      have HQf := Lib.hid (HQd.out.grown hl2 (by have := HQG.out; simpa using this))
      clear hl1 hl2 hxl htk hxm hEc hEBd
      go_still_tail 9, (by kernel_rfl)
      change wpList _ _ _ _ _ w5.drew
      rw [hwd]
      go_wp2_with fail
      go_meet
      exact ⟨_, HF.out, HKf.out, HQf.out⟩
  case rest =>
    obtain ⟨x, hc6, hk6, hq6⟩ := hcut
    have hbw := hk6.below HEL.out (by omega) hB (by omega)
    have HUW := Lib.hid ((HUS.out.below hbw).more (show B ≤ wc.heap.size by have := hk6.size; omega))
    have HC6 := Lib.hid hc6
    have HK6 := Lib.hid hk6
    clear hc6 hk6 HC3 HK3 HQ3 hEB5 c0 c1 c2 c3 hbw HQ
    go_upto_region 5 with fail
    go_cut [] from 35 to 41 (fun wx => ∃ e' : En, CA wx base p m (.slice (some ⟨g2, 0, none⟩) N cap2) (e' :: es1) ∧ e'.t = t ∧ e'.i = i ∧ e'.ks = ks ∧ Kp w wx p v)
    case first =>
      obtain ⟨c0, c1, c2, c3⟩ := HC6.out.row.two
      have q0 := hq6.cell 0
      have q1 := hq6.cell 1
      have q2 := hq6.cell 2
      simp only [List.getElem?_toArray, List.getElem?_cons_zero, List.getElem?_cons_succ] at q0 q1 q2
      have hql := hq6.lt
      clear hq6
      have hz5 : (0 : Int) < (N : Int) := by omega
      have hz6 : 0 < N := by omega
      have hz7 : (N : Int) ≠ 0 := by omega
      have hz8 : N ≠ 0 := by omega
      go_region_with (go_at_call 22; refine (own_is t i A n c ks _ HUW.out.drew hn).mono ?_; rintro _ w7 ⟨A', c', rfl, hko, hb7⟩; obtain ⟨r0, r1, r2, r3⟩ := (HC6.out.drew.below hb7).row.two; have hE7 := (HC6.out.drew.below hb7).eb (by simpa using hN); obtain ⟨s0, s1, s2⟩ := hE7.en 0 (by simp); simp only [Nat.zero_mul, Nat.zero_add] at s0 s1 s2; have f0 := hE7.fro 0; have f1 := hE7.fro 1; have f2 := hE7.fro 2; obtain ⟨hl1, hl2⟩ := hE7.lay 0 0 [⟨t, i, A', n, c', ks⟩] rfl (by simpa using hN1); have HC7 := HC6.out.drew.below hb7; have HF := Lib.hid (HC7.lay hl1 hl2 (fun y hy => by (rcases List.mem_cons.1 hy with rfl | hy; exact hko.mono HC6.out.le; exact HC7.ks y (List.mem_cons_of_mem _ hy)))); have HKf := Lib.hid ((HK6.out.drew.then_ (Kp.of_below hb7 p v) (.inl rfl)).then_ (Kp.of_grown (v := .slice (some ⟨g2, 0, none⟩) N cap2) hl2 p) HVB.out); clear hl1 hl2 hE7 hko hb7 HC7)
      all_goals go_wp2_with fail
      all_goals go_meet
      all_goals exact ⟨_, HF.out, rfl, rfl, rfl, HKf.out⟩
    case rest =>
      obtain ⟨e', hc8, ht, hi, hks, hk8⟩ := hcut
      clear HC6 HK6 hq6 HUW
      obtain ⟨c0, c1, c2, c3⟩ := hc8.row.two
      have hEB8 := hc8.eb (by simpa using hN)
      obtain ⟨_, _, hbg, hNc, hcm⟩ := hEB8.obj
      unfold maxLen at hcm
      have hEB8d := hc8.drew.eb (by simpa using hN)
      by_cases hm : m < N
      · have hz0 : (m : Int) < (N : Int) := by omega
        have hz1 : ¬ ((N : Int) < (m : Int)) := by omega
        have hz2 : ((m : Int) ≤ (N : Int)) := by omega
        have hz3 : m ≤ N := by omega
        have hz4 : m ≤ cap2 := by omega
        have hz5 : ¬ ((N : Int) ≤ (m : Int)) := by omega
        have HF := Lib.hid (CA.store (w := wc.drew) hc8.drew.row (hEB8d.cut m (by omega)).el (fun y hy => hc8.drew.ks y (List.mem_of_mem_take hy)) hc8.lt hc8.le)
        have HKf := Lib.hid (hk8.drew.then_ (Kp.set (w := wc.drew) p 1 (.slice (some ⟨g2, 0, none⟩) m cap2) v) (.inl rfl))
        clear hc8 hk8 hEB8 hEB8d
        go_upto_region 6 with fail
        go_still_tail 18, (by kernel_rfl)
        change wpList _ _ _ _ _ wc.drew
        go_wp2_with fail

        refine bodyPost_end (results_none rfl _ _ _) rfl ?_
        refine ⟨rfl, _, e', HF.out, ht, hi, hks, HKf.out, HVB.out⟩
      · have hz0 : ¬ ((m : Int) < (N : Int)) := by omega
        have hz1 : (N : Int) ≤ (m : Int) := by omega
        have HT := Lib.hid (show (e' :: es1).take m = (e' :: es1).take N by rw [List.take_of_length_le (by simp; omega), List.take_of_length_le (by simp; omega)])
        have HF := Lib.hid (CA.store (w := wc.drew) hc8.drew.row (hEB8d.cut N (by omega)).el (fun y hy => hc8.drew.ks y (List.mem_of_mem_take hy)) hc8.lt hc8.le)
        have HKf := Lib.hid (hk8.drew.then_ (Kp.set (w := wc.drew) p 1 (.slice (some ⟨g2, 0, none⟩) N cap2) v) (.inl rfl))
        clear hc8 hk8 hEB8 hEB8d
        go_upto_region 6 with fail
        go_still_tail 18, (by kernel_rfl)
        change wpList _ _ _ _ _ wc.drew
        go_wp2_with fail

        refine bodyPost_end (results_none rfl _ _ _) rfl ?_
        refine ⟨rfl, _, e', (by rw [HT.out]; exact HF.out), ht, hi, hks, HKf.out, HVB.out⟩
end Go.Proofs.Ytfcopniihcaefaa
