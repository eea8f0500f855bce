/- prepared: PreparedBounds. No condition. -/
import Derived.Test.YtfcopniihcaefaaPQ
namespace Go.Proofs.Ytfcopniihcaefaa
open Go.RowKit
theorem CA.written {w w' w'' : World} {base p m : Nat} {v : Value} {es : List En} {row : Option Nat} (h : CA w' base p m v es) (hk : ∀ e ∈ es, KO w base e) (hp : p < w.heap.size) (hv : ∀ g, v.ownBlock = some g → g < w.heap.size) (hr : ∀ g, row = some g → w.heap.size ≤ g) (hg : w'.grownBy w'' row) : CA w'' base p m v es := by
  refine ⟨(hg.block p h.row.lt (fun e => by have := hr p e.symm; omega)).trans h.row, ?_, fun e he => ⟨⟨(h.ks e he).row.1, ?_⟩, (h.ks e he).rng⟩, h.lt, Nat.le_trans h.le hg.size⟩
  · cases ho : v.ownBlock with
    | none => exact h.el.kept hg (.inl ho)
    | some g => exact h.el.kept hg (.inr (fun e => by have := hv g ho; have := hr g (by rw [← e, ho]); omega))
  · rcases (h.ks e he).row.2 with h1 | ⟨k, cap, cur, hv', hb, hkk, hrr⟩
    · exact .inl h1
    · refine .inr ⟨k, cap, cur, hv', hb, (hg.block k (Array.getElem?_eq_some_iff.1 hkk).1 (fun x => ?_)).trans hkk, hrr⟩
      have h2 := (World.ownsRow.lt (hk e he).row k (by rw [hv']; rfl)).2
      have h3 := hr k x.symm
      omega
theorem KO.at_ {w : World} {base : Nat} {e : En} (h : KO w base e) (hn : 0 < e.n) : ∃ g, e.A = some ⟨g, 0, none⟩ ∧ base ≤ g ∧ g < w.heap.size ∧ (∀ j (hj : j < e.ks.length), w.cell? ⟨g, j, none⟩ = some (.int .u16 (e.ks[j] : Int))) ∧ ∀ j, w.frozen? ⟨g, j, none⟩ = false := by
  have hr := h.row
  rcases hr.2 with ⟨hv, h0⟩ | ⟨g, cap, cur, hv, hb, hk, hc, hm, hs, ht⟩
  · omega
  · injection hv with h1 h2 h3
    rw [h1, h3] at hr
    refine ⟨g, h1, hb, (Array.getElem?_eq_some_iff.1 hk).1, fun j hj => ?_, fun j => World.ownsRow.frozenAt hr j⟩
    have hl : e.ks.length = e.n := by have := hr.1; simpa [kv] using this
    have h4 := hr.cellAt j (by omega)
    unfold kv at h4
    rw [List.getElem?_map, List.getElem?_eq_getElem hj] at h4
    exact h4
theorem KO.stored {w : World} {base g n c : Nat} {t i : List UInt8} {ks : List Nat} (h : KO w base ⟨t, i, some ⟨g, 0, none⟩, n, c, ks⟩) (k z : Nat) (hz : z < 65536) : KO (w.setCell ⟨g, k, none⟩ (.int .u16 (z : Int))) base ⟨t, i, some ⟨g, 0, none⟩, n, c, ks.set k z⟩ ∧ w.grownBy (w.setCell ⟨g, k, none⟩ (.int .u16 (z : Int))) (some g) := by
  obtain ⟨h1, h2⟩ := World.ownsRow.stored h.row k (.int .u16 (z : Int))
  refine ⟨⟨?_, fun y hy => ?_⟩, h2⟩
  · have : kv (ks.set k z) = (kv ks).set k (.int .u16 (z : Int)) := by
      unfold kv
      rw [List.map_set]
    simp only
    rw [this]
    exact h1
  · rcases List.mem_or_eq_of_mem_set hy with hy | rfl
    · exact h.rng y hy
    · exact hz
theorem wrap_u16_nat (x : Int) : ∃ z : Nat, IntKind.u16.wrap x = (z : Int) ∧ z < 65536 := by
  refine ⟨(IntKind.u16.wrap x).toNat, ?_, ?_⟩
  · rw [IntKind.wrap_u16]; omega
  · rw [IntKind.wrap_u16]; omega
theorem text_kk {base p m : Nat} {v : Value} {L : List KE} (t : List UInt8) (w : World) (hc : CK w base p m v L) (hlen : L.length ≤ 549755813888) :
    Calls Try.prog 12 #[.pointer (some ⟨p, 0, none⟩), .string ⟨t.toArray⟩] w fun r w' => (∃ es, CA w' base p m v es ∧ es.map En.k = textK t L ∧ (∀ e ∈ es, KO w base e) ∧ ∀ g, v.ownBlock = some g → g < w.heap.size) ∧ Kw w w' p v v ∧ GotK w' w.heap.size (L.find? fun y => y.1 == t) r := by
  obtain ⟨es, hca, hk⟩ := hc.ex
  refine (text_any t w hca (by rw [← hk, List.length_map] at hlen; omega) (hc.nk hca hk)).mono ?_
  rintro r w' ⟨h1, h2, h3⟩
  refine ⟨⟨_, h1, by rw [text_map, hk], fun e he => ?_, fun g hg => (World.ownsRow.lt hca.el g hg).2⟩, h2.kw (.inl rfl), ?_⟩
  · refine hca.ks e ?_
    unfold mtf at he
    cases ho : es.find? (fun e => e.t == t) with
    | none => rw [ho] at he; exact he
    | some y =>
      rw [ho] at he
      rcases List.mem_cons.1 he with rfl | he
      · exact List.mem_of_find?_eq_some ho
      · exact List.mem_of_mem_eraseIdx he
  · rw [← hk]
    exact h3.k hca.ks (fun _ => rfl)
theorem text_self (x : KE) (R : List KE) : textK x.1 (x :: R) = x :: R ∧ (x :: R).find? (fun y => y.1 == x.1) = some x ∧ (x :: R).find? (fun y => y.2.1 == x.2.1) = some x := by
  have h1 : (x :: R).find? (fun y => y.1 == x.1) = some x := by simp
  refine ⟨?_, h1, by simp⟩
  unfold textK
  rw [h1]
  simp [List.findIdx_cons]
set_option maxRecDepth 100000 in
set_option maxHeartbeats 1000000 in
theorem bounds_neg {A : Option Addr} {N c : Nat} {es : List En} (n : Int) (hn1 : -128 ≤ n) (hn2 : n ≤ 127) (hneg : n ≤ 0) (w : World) (hl : LS w w.heap.size A N c es) : Calls Try.prog 4 #[.int .i8 n, .slice A N c] w fun r w' => r = .returned (.bool true) ∧ Below w.heap.size w w' := by
  have HL := Lib.hid hl
  have hnm := hl.max
  have hnc := hl.cap
  have hnl := hl.len
  unfold maxLen at hnm
  clear hl
  go_enter Try.func4, Try.ntmps4
  go_wp2_with fail
  refine (awake20 _).mono ?_
  rintro _ w1 ⟨rfl, hb1⟩
  go_wp2_with fail
  refine (put_none _).mono ?_
  rintro _ w3 ⟨rfl, hb3⟩
  have hb3 := below_then hb1 hb3
  go_wp2_with fail
  refine (text_none [] _).mono ?_
  rintro _ w4 ⟨rfl, hb4⟩
  have hb4 := below_new (below_then hb3 hb4) (.cells #[.string ⟨[].toArray⟩, .string ⟨[].toArray⟩, .slice none 0 0] 31)
  go_wp2_with fail
  refine (id_none [] _).mono ?_
  rintro _ w5 ⟨rfl, hb5⟩
  have hb5 := below_new (below_then hb4 hb5) (.cells #[.string ⟨[].toArray⟩, .string ⟨[].toArray⟩, .slice none 0 0] 31)
  go_wp2_with fail
  refine (drop_none [] _).mono ?_
  rintro _ w6 ⟨rfl, hb6⟩
  have hb6 := below_then hb5 hb6
  go_wp2_with fail
  refine (all_none _).mono ?_
  rintro _ w7 ⟨rfl, rfl⟩
  have HB6 := Lib.hid hb6
  clear hb1 hb3 hb4 hb5 hb6
  obtain ⟨m, hm⟩ : ∃ m : Nat, max n 0 = (m : Int) := ⟨(max n 0).toNat, by omega⟩
  go_wp2_with fail
  refine (new_k n m _ hm).mono ?_
  rintro _ w2 ⟨rfl, hc2, hb2⟩
  obtain ⟨P, hP⟩ : ∃ P, w7.heap.size = P := ⟨_, rfl⟩
  have hwP : w.heap.size ≤ P := by rw [← hP]; exact HB6.out.size
  rw [hP] at hc2 hb2 ⊢
  have HB2 := Lib.hid (HB6.out.trans (hb2.mono hwP))
  have HC2 := Lib.hid hc2
  have hP2 : P < w2.heap.size := hc2.le
  clear hc2 hb2 hP
  obtain rfl : m = 0 := by omega
  have hz0 : ¬ (0 < n) := by omega
  have hgt : decide (0 < n) = false := decide_eq_false hz0
  go_wp2_with fail
  go_loopw [12] (fun x wr => ∃ (k : Nat) (v : Value), k ≤ N ∧ k ≤ 40 ∧ x = .int .i64 k ∧ Hid (CK wr (P + 1) P 0 v []) ∧ Hid (Below P w2 wr)) (fun x _ => N - (intOf x).toNat)
  case atStart => exact ⟨0, _, Nat.zero_le _, by omega, rfl, HC2, Lib.hid (Below.refl _ _)⟩
  case round =>
    obtain ⟨k, v, hk, hk40, rfl, hC, hB⟩ := hrel
    have HBW := Lib.hid (HB2.out.trans (hB.out.mono hwP))
    by_cases hlt : k < N
    · have hz3 : (k : Int) < (N : Int) := by omega
      by_cases hlt4 : k < 40
      · have hz4 : (k : Int) < 40 := by omega
        have hlk := HL.out.below HBW.out
        obtain ⟨g, o, rfl, hg, hes⟩ := hlk.at_ (by omega)
        obtain ⟨s0, s1, s2⟩ := hes.en k (by omega)
        have hus := hlk.us es[k] (List.getElem_mem _)
        obtain ⟨x, hx⟩ : ∃ x, es[k]'(by omega) = x := ⟨_, rfl⟩
        rw [hx] at s0 s1 s2 hus
        have hgr : g < wr.heap.size := by have := HBW.out.size; omega
        have hgP : g < P := by omega
        have HUS := Lib.hid hus
        clear hlk hes hus hx
        by_cases h3 : 50 < x.n
        · have hz5 : (50 : Int) < (x.n : Int) := by omega
          go_wp2_with fail
          go_ret
          exact ⟨rfl, HBW.out⟩
        · have hz5 : ¬ ((50 : Int) < (x.n : Int)) := by omega
          go_wp2_with fail
          refine (put_k x.t x.i x.A x.n x.c x.ks _ hC.out HUS.out (by omega) (by omega) (by simp)).mono ?_
          rintro _ w3 ⟨rfl, v3, hc3, hk3⟩
          have hc3 : CK w3 (P + 1) P 0 v3 [] := hc3
          have hbb := hC.out.kw_below hk3 (Nat.le_refl _)
          have HC3 := Lib.hid hc3
          have HB3 := Lib.hid (hB.out.trans hbb)
          have t0 := (hbb.cell (p := ⟨g, o + k * 3, none⟩) hgP).trans s0
          have t1 := (hbb.cell (p := ⟨g, o + k * 3 + 1, none⟩) hgP).trans s1
          clear hc3 hk3 hbb s0 s1 s2
          go_wp2_with fail
          refine (text_k x.t _ HC3.out (by simp)).mono ?_
          rintro r w4 ⟨hc4, hk4, hg4⟩
          obtain rfl : r = .returned (.tuple #[.agg #[.string ⟨[].toArray⟩, .string ⟨[].toArray⟩, .slice none 0 0], .bool false]) := hg4
          have hc4 : CK w4 (P + 1) P 0 v3 [] := hc4
          have hbb := HC3.out.kw_below hk4 (Nat.le_refl _)
          have b5 := below_new (Below.refl w4.heap.size w4) (.cells #[.string ⟨[].toArray⟩, .string ⟨[].toArray⟩, .slice none 0 0] 31)
          have hb45 : Below P w3 (w4.alloc (.cells #[.string ⟨[].toArray⟩, .string ⟨[].toArray⟩, .slice none 0 0] 31)) := hbb.trans (b5.mono (by have := hc4.le; omega))
          have HC5 := Lib.hid (hc4.below b5)
          have HB5 := Lib.hid (HB3.out.trans hb45)
          have HX5 := Lib.hid (Row.new w4 31 #[.string ⟨[].toArray⟩, .string ⟨[].toArray⟩, .slice none 0 0])
          have u0 := (hb45.cell (p := ⟨g, o + k * 3, none⟩) hgP).trans t0
          have u1 := (hb45.cell (p := ⟨g, o + k * 3 + 1, none⟩) hgP).trans t1
          clear hc4 hk4 hbb b5 hb45 t0 t1
          go_upto_region 18 with fail
          obtain ⟨w5, hw5⟩ : ∃ w5, w4.alloc (.cells #[.string ⟨[].toArray⟩, .string ⟨[].toArray⟩, .slice none 0 0] 31) = w5 := ⟨_, rfl⟩
          rw [hw5] at HC5 HB5 HX5 u0 u1
          rw [hw5]
          clear hw5
          go_quiet (fail)
          have b6 := below_drewN (Below.refl w5.heap.size w5) nq
          obtain ⟨w6, hw6⟩ : ∃ w6, w5.drewN nq = w6 := ⟨_, rfl⟩
          rw [hw6] at b6 ⊢
          have HC6 := Lib.hid (HC5.out.below b6)
          have HB6 := Lib.hid (HB5.out.trans (b6.mono (by have := HC5.out.le; omega)))
          have u1 := (b6.cell (p := ⟨g, o + k * 3 + 1, none⟩) (show g < w5.heap.size by have := HC5.out.le; omega)).trans u1
          obtain ⟨x0, x1, x2, x3⟩ := (HX5.out.below b6 HX5.out.lt).three
          clear b6 hw6 HC5 HB5 HX5 u0
          go_wp2_with fail
          go_loopw [15] (fun x wr => x = .int .i64 0 ∧ wr = w6) (fun _ _ => 0)
          case atStart => exact ⟨rfl, rfl⟩
          case round =>
            obtain ⟨rfl, rfl⟩ := hrel
            go_wp2_with fail
            refine (id_k x.i _ HC6.out (by simp)).mono ?_
            rintro r w7 ⟨hc7, hb7, hg7⟩
            obtain rfl : r = .returned (.tuple #[.agg #[.string ⟨[].toArray⟩, .string ⟨[].toArray⟩, .slice none 0 0], .bool false]) := hg7
            have b8 := below_new hb7 (.cells #[.string ⟨[].toArray⟩, .string ⟨[].toArray⟩, .slice none 0 0] 31)
            have HC8 := Lib.hid (HC6.out.below b8)
            have HB8 := Lib.hid (HB6.out.trans (b8.mono (by have := HC6.out.le; omega)))
            clear hc7 hb7 b8 x0 x1 x2
            go_upto_region 25 with fail
            obtain ⟨w8, hw8⟩ : ∃ w8, w7.alloc (.cells #[.string ⟨[].toArray⟩, .string ⟨[].toArray⟩, .slice none 0 0] 31) = w8 := ⟨_, rfl⟩
            rw [hw8] at HC8 HB8
            rw [hw8]
            clear hw8
            go_quiet (fail)
            have b9 := below_drewN (Below.refl w8.heap.size w8) nq
            obtain ⟨w9, hw9⟩ : ∃ w9, w8.drewN nq = w9 := ⟨_, rfl⟩
            rw [hw9] at b9 ⊢
            have HC9 := Lib.hid (HC8.out.below b9)
            have HB9 := Lib.hid (HB8.out.trans (b9.mono (by have := HC8.out.le; omega)))
            clear b9 hw9 HC8 HB8
            go_wp2_with fail
            refine (all_k _ HC9.out (by simp)).mono ?_
            rintro _ w10 ⟨v10, out, rfl, hel10, _, hm10, hb10⟩
            have ho : out.length = 0 := by simpa using congrArg List.length hm10
            obtain ⟨A10, c10, rfl⟩ := hel10.form
            rw [ho]
            have HC10 := Lib.hid (HC9.out.below hb10)
            have HB10 := Lib.hid (HB9.out.trans (hb10.mono (by have := HC9.out.le; omega)))
            clear hel10 hm10 hb10 ho
            have hge : ¬ (n < (0 : Int)) ∨ n < 0 := by omega
            rcases hge with hge | hge
            · obtain rfl : n = 0 := by omega
              go_wp2_with fail
              go_loopw [19] (fun x wr => x = .int .i64 0 ∧ wr = w10) (fun _ _ => 0)
              case atStart => exact ⟨rfl, rfl⟩
              case round =>
                obtain ⟨rfl, rfl⟩ := hrel
                go_wp2_with fail
                exact ⟨⟨k + 1, _, by omega, by omega, by go_num, HC10, HB10⟩, by simp [intOf]; omega⟩
            · have hge2 : ¬ (0 ≤ n) := by omega
              go_wp2_with fail
              go_loopw [19] (fun x wr => x = .int .i64 0 ∧ wr = w10) (fun _ _ => 0)
              case atStart => exact ⟨rfl, rfl⟩
              case round =>
                obtain ⟨rfl, rfl⟩ := hrel
                go_wp2_with fail
                exact ⟨⟨k + 1, _, by omega, by omega, by go_num, HC10, HB10⟩, by simp [intOf]; omega⟩
      · have hz4 : ¬ ((k : Int) < 40) := by omega
        go_wp2_with fail
        go_ret
        exact ⟨rfl, HBW.out⟩
    · have hz3 : ¬ ((k : Int) < (N : Int)) := by omega
      go_wp2_with fail
      go_ret
      exact ⟨rfl, HBW.out⟩
end Go.Proofs.Ytfcopniihcaefaa
