/- routing.Token and routing.Pick: what they compute. Of at most 100 parts, of at most 2^40 places. -/
import Derived.Test.YtapekipfkghdhaaKD
namespace Go.Proofs.Ytapekipfkghdhaa
open Go.RowKit
theorem keyE_rng (ps : List Part) : keyE ps = 0 ∨ keyE ps = 1 ∨ keyE ps = 12 := by
  unfold keyE
  by_cases h0 : ps.length = 0
  · rw [if_pos h0]; exact .inr (.inl rfl)
  · rw [if_neg h0]
    by_cases h1 : ps.length = 1
    · rw [if_pos h1]; exact .inl rfl
    · rw [if_neg h1]
      cases tooLong ps
      · exact .inl rfl
      · exact .inr (.inr rfl)
theorem rtoken12 {A : Option Addr} {n c : Nat} {ps : List Part} (w : World) (hps : PS w w.heap.size A n c ps) (hmx : n ≤ 100) (hn : ∀ k (h : k < ps.length), ps[k].n ≤ 140737488355328) :
    Calls Try.prog 23 #[.slice A n c] w fun e w' => e = .returned (.tuple #[.int .i64 (if keyE ps = 0 then tok (hh (keyB ps)) else 0), .int .i64 (keyE ps)]) ∧ Below w.heap.size w w' := by
  have hk := key_any w hps hmx hn
  obtain ⟨x, hx⟩ : ∃ x, keyE ps = x := ⟨_, rfl⟩
  rw [hx] at hk ⊢
  have HK := Lib.hid hk
  clear hk
  by_cases h0 : x = 0
  · subst h0
    rw [if_pos rfl]
    go_enter Try.func23, Try.ntmps23
    go_wp2_with fail
    refine HK.out.mono ?_
    rintro e w1 ⟨v, N, rfl, hown, hb⟩
    obtain ⟨A1, c1, rfl, sw⟩ := SW.of_own hown
    go_wp2_with fail
    refine (token_any _ sw).mono ?_
    rintro e w2 ⟨rfl, rfl⟩
    go_wp2_with fail
    go_ret2
    exact ⟨rfl, hb⟩
  · rw [if_neg h0]
    clear hx
    go_enter Try.func23, Try.ntmps23
    go_wp2_with fail
    refine HK.out.mono ?_
    rintro e w1 ⟨v, N, rfl, hown, hb⟩
    go_wp2_with fail
    go_ret2
    exact ⟨rfl, hb⟩
/-- A value: its kind, its bytes. -/
structure Val where
  kind : Int
  p : Part
instance : Inhabited Val := ⟨⟨0, ⟨none, 0, 0, []⟩⟩⟩
/-- Values in block g, from place o on. -/
structure VO (w : World) (B g o : Nat) (vs : List Val) : Prop where
  kind : ∀ i (h : i < vs.length), w.cell? ⟨g, o + i * 2, none⟩ = some (.int .i64 vs[i].kind)
  cell : ∀ i (h : i < vs.length), w.cell? ⟨g, o + i * 2 + 1, none⟩ = some vs[i].p.v
  bs : ∀ i (h : i < vs.length), BS w B vs[i].p.A vs[i].p.n vs[i].p.c vs[i].p.l
theorem VO.below {w w' : World} {B g o : Nat} {vs : List Val} (h : VO w B g o vs) (hb : Below B w w') (hg : g < B) : VO w' B g o vs :=
  ⟨fun i hi => (hb.cell (p := ⟨g, o + i * 2, none⟩) hg).trans (h.kind i hi), fun i hi => (hb.cell (p := ⟨g, o + i * 2 + 1, none⟩) hg).trans (h.cell i hi), fun i hi => (h.bs i hi).below hb⟩
/-- A slice of values. -/
structure VS (w : World) (B : Nat) (A : Option Addr) (n c : Nat) (vs : List Val) : Prop where
  len : vs.length = n
  cap : n ≤ c
  max : c ≤ maxLen
  rng : ∀ v ∈ vs, -9223372036854775808 ≤ v.kind ∧ v.kind ≤ 9223372036854775807
  at_ : 0 < n → ∃ g o, A = some ⟨g, o, none⟩ ∧ g < B ∧ VO w B g o vs
theorem VS.below {w w' : World} {B n c : Nat} {A : Option Addr} {vs : List Val} (h : VS w B A n c vs) (hb : Below B w w') : VS w' B A n c vs :=
  ⟨h.len, h.cap, h.max, h.rng, fun hn => by
    obtain ⟨g, o, e, hg, hp⟩ := h.at_ hn
    exact ⟨g, o, e, hg, hp.below hb hg⟩⟩
/-- A slice of places. -/
structure US (w : World) (B : Nat) (A : Option Addr) (n c : Nat) (zs : List Nat) : Prop where
  len : zs.length = n
  cap : n ≤ c
  max : c ≤ maxLen
  rng : ∀ z ∈ zs, z < 65536
  at_ : 0 < n → ∃ g o, A = some ⟨g, o, none⟩ ∧ g < B ∧ ∀ i (h : i < zs.length), w.cell? ⟨g, o + i, none⟩ = some (.int .u16 (zs[i] : Int))
theorem US.below {w w' : World} {B n c : Nat} {A : Option Addr} {zs : List Nat} (h : US w B A n c zs) (hb : Below B w w') : US w' B A n c zs :=
  ⟨h.len, h.cap, h.max, h.rng, fun hn => by
    obtain ⟨g, o, e, hg, hp⟩ := h.at_ hn
    exact ⟨g, o, e, hg, fun i hi => (hb.cell (p := ⟨g, o + i, none⟩) hg).trans (hp i hi)⟩⟩
/-- May the value at a place be taken? -/
def okAt (vs : List Val) (z : Nat) : Bool := decide (z < vs.length) && decide ((vs.getD z default).kind = 2)
/-- What is picked. -/
def pickL (vs : List Val) (zs : List Nat) : List (List UInt8) := zs.map fun z => (vs.getD z default).p.l
/-- Parts, each in a block of its own. -/
structure PO (w : World) (base : Nat) (v : Value) (ps : List Part) : Prop where
  pt : PT w base v ps
  own : ∀ p ∈ ps, w.ownsRow base 5 1 p.v p.n (bv p.l)
  apart : ps.Pairwise fun p q => ∀ a b, p.A = some a → q.A = some b → a.block ≠ b.block
theorem own_block {w w' : World} {base n e size : Nat} {v : Value} {xs : List Value} (h : w.ownsRow base e size v n xs) (hk : ∀ k, base ≤ k → k < w.heap.size → (∃ cs f, w.heap[k]? = some (.cells cs e f)) → w'.heap[k]? = w.heap[k]?) : w'.ownsRow base e size v n xs := by
  obtain ⟨h1, h2⟩ := h
  refine ⟨h1, ?_⟩
  rcases h2 with h2 | ⟨g, cap, cur, hv, hg, hh, hr⟩
  · exact .inl h2
  · exact .inr ⟨g, cap, cur, hv, hg, (hk g hg (Array.getElem?_eq_some_iff.1 hh).1 ⟨_, _, hh⟩).trans hh, hr⟩
set_option maxRecDepth 20000 in
set_option maxHeartbeats 1600000 in
theorem pick_any {A A2 : Option Addr} {n c n2 c2 : Nat} {zs : List Nat} {vs : List Val} (w : World) (hz : US w w.heap.size A n c zs) (hv : VS w w.heap.size A2 n2 c2 vs) (hn : n ≤ 1099511627776) (hvn : ∀ x ∈ vs, x.p.n ≤ 140737488355328) :
    Calls Try.prog 28 #[.slice A n c, .slice A2 n2 c2] w fun e w' => ∃ v ps, e = .returned (.tuple #[v, .int .i64 (if zs.all (okAt vs) then 0 else 1)]) ∧ PO w' w.heap.size v ps ∧ ps.map (·.l) = (if zs.all (okAt vs) then pickL vs zs else []) ∧ Below w.heap.size w w' := by
  have hzl := hz.len
  have hvl := hv.len
  have hzm := Nat.le_trans hz.cap hz.max
  have hvm := Nat.le_trans hv.cap hv.max
  unfold maxLen at hzm hvm
  obtain ⟨E, hE⟩ : ∃ E : Int, (if zs.all (okAt vs) then 0 else 1) = E := ⟨_, rfl⟩
  obtain ⟨L, hL⟩ : ∃ L, (if zs.all (okAt vs) then pickL vs zs else []) = L := ⟨_, rfl⟩
  rw [hE, hL]
  have HE := Lib.hid hE
  have HL := Lib.hid hL
  clear hE hL
  go_enter Try.func28, Try.ntmps28
  go_wp2_with fail
  go_loopw [6, 11] (fun v i wr => ∃ (k : Nat) (ps : List Part), k ≤ n ∧ i = .int .i64 k ∧ ps.length = k ∧ PO wr w.heap.size v ps ∧ ps.map (·.l) = pickL vs (zs.take k) ∧ (zs.take k).all (okAt vs) = true ∧ Below w.heap.size w wr) (fun _ i _ => n - (intOf i).toNat)
  case atStart => exact ⟨0, [], Nat.zero_le _, rfl, rfl, ⟨PT.nil _ _, fun p hp => (nomatch hp), List.Pairwise.nil⟩, rfl, rfl, Below.refl _ _⟩
  case round =>
    obtain ⟨k, ps, hk, rfl, hpl, hPO, hmap, hall, hb⟩ := hrel
    by_cases hlt : k < n
    · obtain ⟨g, o, rfl, hg, hcz⟩ := hz.at_ (by omega)
      have hkz : k < zs.length := by omega
      have hck := (hb.cell (p := ⟨g, o + k, none⟩) hg).trans (hcz k hkz)
      have hzr := hz.rng zs[k] (List.getElem_mem hkz)
      have htk : zs.take (k + 1) = zs.take k ++ [zs[k]] := List.take_succ_eq_append_getElem hkz
      have hmem : zs[k] ∈ zs := List.getElem_mem hkz
      obtain ⟨z, hzk⟩ : ∃ z, zs[k] = z := ⟨_, rfl⟩
      rw [hzk] at hck hzr htk hmem
      by_cases hzv : z < n2
      · obtain ⟨g2, o2, rfl, hg2, hvo⟩ := hv.at_ (by omega)
        have hzl2 : z < vs.length := by omega
        have c0 := (hvo.below hb hg2).kind z hzl2
        have c1 := (hvo.below hb hg2).cell z hzl2
        have b1 := (hvo.below hb hg2).bs z hzl2
        have r1 := hv.rng _ (List.getElem_mem hzl2)
        have n1 := hvn _ (List.getElem_mem hzl2)
        have hget : vs.getD z default = vs[z] := by simp [List.getD, hzl2]
        obtain ⟨x, hx⟩ : ∃ x, vs[z] = x := ⟨_, rfl⟩
        rw [hx] at c0 c1 b1 r1 n1 hget
        obtain ⟨K, ⟨A1, m1, d1, l1⟩⟩ := x
        simp only [Part.v] at c0 c1 b1 r1 n1
        have hok : okAt vs z = decide (K = 2) := by unfold okAt; rw [hget]; simp [hzl2]
        by_cases hK : K = 2
        · subst hK
          have HOK := Lib.hid (show (zs.take (k + 1)).all (okAt vs) = true by rw [htk, List.all_append, hall]; simp [hok])
          have HPK := Lib.hid (show pickL vs (zs.take (k + 1)) = pickL vs (zs.take k) ++ [l1] by rw [htk]; unfold pickL; rw [List.map_append, List.map_singleton, hget])
          have HMP := Lib.hid hmap
          clear hok hx hget hall hmap htk
          go_wp2_with fail
          refine (clone_any _ b1 hb.size n1).mono ?_
          rintro e w1 ⟨v1, rfl, hown1, hb1⟩
          obtain ⟨A3, c3, rfl, sw3⟩ := SW.of_own hown1
          have hba : Below w1.heap.size w1 (w1.alloc (.cells #[.slice A3 m1 c3] 22)) := below_new (Below.refl _ _) _
          have hb1a := below_then hb1 hba
          have hown2 := own_below hown1 hba
          obtain ⟨p, hpp⟩ : ∃ p : Part, p = ⟨A3, m1, c3, l1⟩ := ⟨_, rfl⟩
          have hrs := (hPO.pt.below hb1a).run_snoc p (g := w1.heap.size) (by rw [(Row.new w1 _ _).cell, hpp]; rfl) (by rw [hpp]; exact sw3.then_ hba) (by rw [hpp]; exact OB.own (owns_mono hown2 hb.size)) (by have := (below_then hb hb1a).size; exact this) (by omega)
          have HRS := Lib.hid hrs
          clear hrs
          obtain ⟨vv, w8, hrun, hPT8, hg8⟩ := HRS.out 33
          have hprow := (hPO.pt.below hb1a).row
          have hob := own_blk' hprow
          have hty : ∀ {q : Part}, (w1.alloc (.cells #[.slice A3 m1 c3] 22)).ownsRow w.heap.size 5 1 q.v q.n (bv q.l) → w8.ownsRow w.heap.size 5 1 q.v q.n (bv q.l) := fun h => own_block h fun k _ _ ⟨cs, f, hc⟩ => grown_typed hprow hg8 hc (by decide)
          clear HRS
          go_wp2_with (at_builtin; refine Lib.wpList_append_run _ rfl _ _ _ _ rfl _ _ rfl rfl _ _ hrun ?_)
          refine ⟨⟨k + 1, ps ++ [p], by omega, by go_num, by rw [List.length_append, hpl]; rfl, ⟨hPT8, fun q hq => ?_, ?_⟩, ?_, HOK.out, ?_⟩, by simp [intOf]; omega⟩
          · rcases List.mem_append.1 hq with hq | hq
            · exact hty (own_below (hPO.own q hq) hb1a)
            · simp at hq
              rw [hq, hpp]
              exact hty (owns_mono hown2 hb.size)
          · rw [List.pairwise_append]
            refine ⟨hPO.apart, List.pairwise_singleton _ _, fun q hq u hu => ?_⟩
            simp at hu
            subst hu
            intro a b ha hb' e
            have h1 := (hPO.own q hq).lt a.block (by rw [Part.v, ha]; rfl)
            have h2 := hown1.lt b.block (by rw [hpp] at hb'; rw [show A3 = some b from hb']; rfl)
            omega
          · rw [List.map_append, HMP.out, HPK.out, hpp]; rfl
          · exact (below_then hb hb1a).grown hg8 (below_then hb hb1a).size (fun g hg => hob g hg)
        · have hno : zs.all (okAt vs) = false := by
            rw [List.all_eq_false]
            exact ⟨z, hmem, by rw [hok]; simpa using hK⟩
          have h1 := HE.out
          have h2 := HL.out
          rw [hno] at h1 h2
          simp only [Bool.false_eq_true, if_false] at h1 h2
          subst h1
          subst h2
          clear hok hno hx HE HL
          have hKb : (K != 2) = true := by simpa using hK
          have hKc : (K == 2) = false := by simpa using hK
          go_wp2_with fail
          go_ret2
          exact ⟨_, [], rfl, ⟨PT.nil _ _, fun p hp => (nomatch hp), List.Pairwise.nil⟩, rfl, hb⟩
      · have hno : zs.all (okAt vs) = false := by
          rw [List.all_eq_false]
          exact ⟨z, hmem, by unfold okAt; rw [show decide (z < vs.length) = false by simp; omega]; simp⟩
        have h1 := HE.out
        have h2 := HL.out
        rw [hno] at h1 h2
        simp only [Bool.false_eq_true, if_false] at h1 h2
        subst h1
        subst h2
        clear hno HE HL
        go_wp2_with fail
        go_ret2
        exact ⟨_, [], rfl, ⟨PT.nil _ _, fun p hp => (nomatch hp), List.Pairwise.nil⟩, rfl, hb⟩
    · obtain rfl : k = n := by omega
      have hzt : zs.take k = zs := List.take_of_length_le (by omega)
      rw [hzt] at hmap hall
      have h1 := HE.out
      have h2 := HL.out
      rw [hall] at h1 h2
      simp only [if_true] at h1 h2
      subst h1
      rw [h2] at hmap
      have HM := Lib.hid hmap
      clear hall hmap HE HL h2 hzt
      go_wp2_with fail
      go_ret2
      exact ⟨_, ps, rfl, hPO, HM.out, hb⟩
end Go.Proofs.Ytapekipfkghdhaa
