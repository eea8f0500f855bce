/- prepared: PreparedLast. No condition. -/
import Derived.Test.YtfcopniihcaefaaPL
import Derived.StillTailTactics
import Derived.BigQuiet
import Derived.Deep.QuietTactic
namespace Go.Proofs.Ytfcopniihcaefaa
open Go.RowKit
/-- The entries that are put in first, in the order of their putting. -/
def ch (j : Nat) : UInt8 := UInt8.ofNat (97 + j)
def entA (j : Nat) : KE := ([ch j], [105, ch j], [])
def entX (j : Nat) : KE := ([120, ch j], [121, ch j], [])
def abc : ByteArray := ⟨#[97, 98, 99, 100, 101, 102, 103, 104, 105, 106, 107, 108, 109, 110, 111, 112, 113, 114, 115, 116]⟩
theorem abc_sl : ∀ k : Nat, k < 20 → abc.extract k (k + 1) = ⟨#[ch k]⟩ := by
  decide +kernel
theorem abc_i (b c : UInt8) : (⟨#[b]⟩ : ByteArray) ++ ⟨#[c]⟩ = ⟨#[b, c]⟩ := rfl
def rowA (M k : Nat) : List KE := ((List.range k).reverse.map entA).take M
theorem rowA_len (M k : Nat) : (rowA M k).length = min M k := by simp [rowA]
theorem uofs : ∀ i : Nat, i < 20 → ∀ j : Nat, j < 20 → ch i = ch j → i = j := by
  decide +kernel
theorem filter_take_fresh {x : KE} {L : List KE} (M : Nat) (h : ∀ y ∈ L, y.1 ≠ x.1 ∧ y.2.1 ≠ x.2.1) : putK M x (L.take M) = (x :: L).take M := by
  unfold putK
  rw [List.filter_eq_self.2]
  · cases M with
    | zero => rfl
    | succ M => simp [List.take_take]
  · intro y hy
    obtain ⟨h1, h2⟩ := h y (List.mem_of_mem_take hy)
    simp [h1, h2]
theorem rowA_put (M k : Nat) (hk : k < 20) : putK M ([ch k], [105, ch k], []) (rowA M k) = rowA M (k + 1) := by
  unfold rowA
  rw [filter_take_fresh]
  · rw [List.range_succ, List.reverse_append, List.reverse_singleton, List.singleton_append, List.map_cons]
    rfl
  · intro y hy
    obtain ⟨j, hj, rfl⟩ := List.mem_map.1 hy
    simp at hj
    have : ch j ≠ ch k := fun e => by have := uofs j (by omega) k hk e; omega
    simp [entA, this]
theorem rowA_mem {M k : Nat} (hk : k < 20) : ∀ y ∈ rowA M k, ∃ j, j < 20 ∧ y = entA j := fun y hy => by
  obtain ⟨j, hj, rfl⟩ := List.mem_map.1 (List.mem_of_mem_take hy)
  simp at hj
  exact ⟨j, by omega, rfl⟩
theorem text_head {t : List UInt8} {L : List KE} (h : ∃ y ∈ L, y.1 = t) : ∃ y R, textK t L = y :: R ∧ y.1 = t ∧ L.find? (fun y => y.1 == t) = some y ∧ R.length + 1 = L.length ∧ ∀ x ∈ R, x ∈ L := by
  obtain ⟨y0, hy0, ht0⟩ := h
  cases ho : L.find? (fun y => y.1 == t) with
  | none => exact absurd ht0 (by simpa using List.find?_eq_none.1 ho y0 hy0)
  | some y =>
    have hlt : L.findIdx (fun y => y.1 == t) < L.length := List.findIdx_lt_length_of_exists ⟨y0, hy0, by simpa using ht0⟩
    refine ⟨y, L.eraseIdx (L.findIdx fun y => y.1 == t), by unfold textK; rw [ho], by simpa using List.find?_some ho, rfl, ?_, fun x hx => List.mem_of_mem_eraseIdx hx⟩
    rw [List.length_eraseIdx_of_lt hlt]
    omega
def rowX (L : List KE) (M i : Nat) : List KE := ((List.range i).reverse.map entX ++ L).take M
theorem rowX_put {L : List KE} (M i : Nat) (hi : i < 20) (hL : ∀ y ∈ L, ∃ j, j < 20 ∧ y = entA j) : putK M ([120, ch i], [121, ch i], []) (rowX L M i) = rowX L M (i + 1) := by
  unfold rowX
  rw [filter_take_fresh]
  · rw [List.range_succ, List.reverse_append, List.reverse_singleton, List.singleton_append, List.map_cons]
    rfl
  · intro y hy
    rcases List.mem_append.1 hy with hy | hy
    · obtain ⟨j, hj, rfl⟩ := List.mem_map.1 hy
      simp at hj
      have : ch j ≠ ch i := fun e => by have := uofs j (by omega) i hi e; omega
      simp [entX, this]
    · obtain ⟨j, hj, rfl⟩ := hL y hy
      simp [entA]
theorem ch_z : ∀ j : Nat, j < 20 → ch j ≠ 122 := by
  decide +kernel
theorem last_row {M : Nat} {L L2 : List KE} {t : List UInt8} {y0 : KE} (hM : 2 ≤ M) (hL2 : L = y0 :: L2) (hy : y0.1 = t) (hL : ∀ y ∈ L, ∃ j, j < 20 ∧ y = entA j) :
    ∃ y R, textK t (rowX L M (M - 1)) = y :: R ∧ (rowX L M (M - 1)).find? (fun y => y.1 == t) = some y ∧ y.1 = t ∧ putK M ([122], [122], []) (y :: R) = ([122], [122], []) :: y :: R.take (M - 2) ∧ R.length + 1 = M := by
  have hlen : (rowX L M (M - 1)).length = M := by
    unfold rowX
    rw [hL2]
    simp
    omega
  have hmem : y0 ∈ rowX L M (M - 1) := by
    unfold rowX
    rw [hL2, List.mem_iff_getElem?]
    refine ⟨M - 1, ?_⟩
    rw [List.getElem?_take_of_lt (by omega), List.getElem?_append_right (by simp)]
    simp
  have hz : ∀ y ∈ rowX L M (M - 1), y.1 ≠ [122] ∧ y.2.1 ≠ [122] := fun y hy => by
    rcases List.mem_append.1 (List.mem_of_mem_take hy) with hy | hy
    · obtain ⟨j, _, rfl⟩ := List.mem_map.1 hy
      simp [entX]
    · obtain ⟨j, hj, rfl⟩ := hL y hy
      simp [entA, ch_z j hj]
  obtain ⟨y, R, h1, h2, h3, h4, h5⟩ := text_head ⟨y0, hmem, hy⟩
  have hym : y ∈ rowX L M (M - 1) := List.mem_of_find?_eq_some h3
  refine ⟨y, R, h1, h3, h2, ?_, by omega⟩
  have := filter_take_fresh (x := ([122], [122], [])) (L := y :: R) M (fun x hx => by
    rcases List.mem_cons.1 hx with rfl | hx
    · exact hz x hym
    · exact hz x (h5 x hx))
  rw [List.take_of_length_le (by simp; omega)] at this
  rw [this]
  obtain ⟨q, rfl⟩ : ∃ q, M = q + 2 := ⟨M - 2, by omega⟩
  simp
theorem rowA_at (M k i : Nat) (hi : i < min M k) : (rowA M k)[i]? = some (entA (k - 1 - i)) := by
  unfold rowA
  rw [List.getElem?_take_of_lt (by omega), List.getElem?_map, List.getElem?_reverse (by simp; omega)]
  rw [List.length_range, List.getElem?_range (by omega)]
  rfl
theorem key_at {es : List En} {L : List KE} (h : es.map En.k = L) (i : Nat) (hi : i < es.length) {x : KE} (hx : L[i]? = some x) : es[i].t = x.1 ∧ es[i].i = x.2.1 ∧ es[i].ks = x.2.2 := by
  rw [← h, List.getElem?_map, List.getElem?_eq_getElem hi] at hx
  injection hx with hx
  rw [← hx]
  exact ⟨rfl, rfl, rfl⟩
theorem EL.below {w w' : World} {base : Nat} {v : Value} {es : List En} (h : EL w base v es) (hb : Below w.heap.size w w') : EL w' base v es := own_below h hb
theorem EL.at_ {w : World} {base N cap : Nat} {A : Option Addr} {es : List En} (h : EL w base (.slice A N cap) es) (hN : es.length = N) (i : Nat) (hi : i < N) : ∃ g, A = some ⟨g, 0, none⟩ ∧ g < w.heap.size ∧ EB w base g N cap es ∧ w.cell? ⟨g, i * 3, none⟩ = some (.string ⟨(es[i]'(by omega)).t.toArray⟩) ∧ w.cell? ⟨g, i * 3 + 1, none⟩ = some (.string ⟨(es[i]'(by omega)).i.toArray⟩) ∧ w.cell? ⟨g, i * 3 + 2, none⟩ = some (.slice (es[i]'(by omega)).A (es[i]'(by omega)).n (es[i]'(by omega)).c) := by
  obtain ⟨g, cap', hv, hb⟩ := h.some_ N hN (by omega)
  injection hv with h1 _ h3
  subst h1
  subst h3
  obtain ⟨s0, s1, s2⟩ := hb.en i (by omega)
  exact ⟨g, rfl, hb.lt, hb, s0, s1, s2⟩
set_option maxRecDepth 4000 in
set_option maxHeartbeats 1000000 in
theorem last_any (n m a : Nat) (w : World) (hn : n < 256) (hm : m < 256) (ha : a < 256) : Calls Try.prog 5 #[.int .u8 n, .int .u8 m, .int .u8 a] w fun r w' => r = .returned (.bool true) ∧ Below w.heap.size w w' := by
  obtain ⟨M, hM⟩ : ∃ M : Nat, (n : Int) % 10 + 1 = (M : Int) := ⟨n % 10 + 1, by omega⟩
  obtain ⟨K, hK⟩ : ∃ K : Nat, (m : Int) % 20 = (K : Int) := ⟨m % 20, by omega⟩
  have hM1 : 1 ≤ M := by omega
  have hM2 : M ≤ 10 := by omega
  have hK2 : K < 20 := by omega
  go_enter Try.func5, Try.ntmps5
  go_wp2_with fail
  refine (awake20 _).mono ?_
  rintro _ w1 ⟨rfl, hb1⟩
  go_wp2_with fail
  refine (new_k (M : Int) M _ (by omega)).mono ?_
  rintro _ w2 ⟨rfl, hc2, hb2⟩
  obtain ⟨P, hP⟩ : ∃ P, w1.heap.size = P := ⟨_, rfl⟩
  have hwp : w.heap.size ≤ P := by rw [← hP]; exact hb1.size
  rw [hP] at hc2 hb2 ⊢
  have HC2 := Lib.hid hc2
  have HB2 := Lib.hid (hb1.trans (hb2.mono hwp))
  clear hc2 hb1 hb2 hP
  go_wp2_with fail
  go_loopw [12] (fun x wr => ∃ (k : Nat) (v : Value), k ≤ K ∧ x = .int .i64 k ∧ Hid (CK wr (P + 1) P M v (rowA M k)) ∧ Hid (Below w.heap.size w wr)) (fun x _ => K - (intOf x).toNat)
  case atStart => exact ⟨0, _, Nat.zero_le _, rfl, Lib.hid (by have := HC2.out; simpa [rowA] using this), HB2⟩
  case round =>
    clear hM hK
    obtain ⟨k, v, hk, rfl, hC, hB⟩ := hrel
    by_cases hlt : k < K
    · have hz1 : (k : Int) < (K : Int) := by omega
      go_upto_region 11 with fail
      have hz2 : k + 1 ≤ 20 := by omega
      have hz3 : (k : Int) + 1 ≤ 20 := by omega
      have hz4 : (0 : Int) ≤ (k : Int) + 1 := by omega
      have hz5 : ((k : Int) + 1).toNat = k + 1 := by omega
      have hz6 : k ≤ 20 := by omega
      have hz7 : k ≤ k + 1 := by omega
      have hwr : IntKind.i64.wrap ((k : Int) + 1) = (k : Int) + 1 := by rw [IntKind.wrap_i64]; omega
      have hSk : (⟨#[97, 98, 99, 100, 101, 102, 103, 104, 105, 106, 107, 108, 109, 110, 111, 112, 113, 114, 115, 116]⟩ : ByteArray).extract k (k + 1) = ⟨#[ch k]⟩ := abc_sl k (by omega)
      have HL := Lib.hid (show (rowA M k).length ≤ 549755813888 by rw [rowA_len]; omega)
      have HP := Lib.hid (rowA_put M k (by omega))
      go_region_with (go_at_call 9; rw [abc_i]; refine (put_k [ch k] [105, ch k] none 0 0 [] _ hC.out.drew (US.none_ _ P) (Nat.le_refl _) (by omega) HL.out).mono ?_; rintro _ w3 ⟨rfl, v3, hc3, hk3⟩; rw [HP.out] at hc3; have HC3 := Lib.hid hc3; have HB3 := Lib.hid (hB.out.drew.trans ((hC.out.drew.kw_below hk3 (Nat.le_refl _)).mono hwp)); clear hc3 hk3)
      all_goals go_wp2_with fail
      all_goals exact ⟨⟨k + 1, _, by omega, by go_num, HC3, HB3⟩, by simp [intOf]; omega⟩
    · obtain rfl : k = K := by omega
      have HL := Lib.hid (show (rowA M k).length ≤ 549755813888 by rw [rowA_len]; omega)
      go_wp2_with fail
      refine (all_k _ hC.out HL.out).mono ?_
      rintro _ w4 ⟨v4, out, rfl, hel4, _, hm4, hb4⟩
      obtain ⟨N, hN⟩ : ∃ N, out.length = N := ⟨_, rfl⟩
      have hNL : N = min M k := by rw [← hN, ← rowA_len, ← hm4, List.length_map]
      obtain ⟨A4, c4, rfl⟩ := hel4.form
      rw [hN] at hel4
      have HE4 := Lib.hid hel4
      have HM4 := Lib.hid hm4
      have HC4 := Lib.hid (hC.out.below hb4)
      have HB4 := Lib.hid (below_then hB.out hb4)
      have HN := Lib.hid hN
      have HNL := Lib.hid hNL
      have hN1 : N ≤ M := by omega
      have hN2 : N ≤ k := by omega
      rw [hN]
      clear hel4 hm4 hb4 hN hNL
      go_upto_if 57 with fail
      go_cut [14] from 57 to 58 (fun v wx => v = .int .i64 (N : Int) ∧ wx = w4)
      case first =>
        by_cases hMK : M < k
        · have hz : (M : Int) < (k : Int) := by omega
          go_wp2_with fail
          go_meet
          exact ⟨by rw [show N = M by have := HNL.out; omega], rfl⟩
        · have hz : ¬ ((M : Int) < (k : Int)) := by omega
          go_wp2_with fail
          go_meet
          exact ⟨by rw [show N = k by have := HNL.out; omega], rfl⟩
      case rest =>
        obtain ⟨rfl, rfl⟩ := hcut
        go_wp2_with fail
        go_loopw [15] (fun x wr => ∃ i : Nat, i ≤ N ∧ x = .int .i64 i ∧ Hid (Below wc.heap.size wc wr)) (fun x _ => N - (intOf x).toNat)
        case atStart => exact ⟨0, Nat.zero_le _, rfl, Lib.hid (Below.refl _ _)⟩
        case round =>
          obtain ⟨i, hi, rfl, hBi⟩ := hrel
          by_cases hlt : i < N
          · obtain ⟨g, rfl, hgl, _, s0, _, _⟩ := (HE4.out.below hBi.out).at_ HN.out i hlt
            obtain ⟨J, hJ⟩ : ∃ J, k - 1 - i = J := ⟨_, rfl⟩
            have hj0 : J < 20 := by omega
            rw [(key_at HM4.out i (by rw [HN.out]; exact hlt) (rowA_at M k i (by have := HNL.out; omega))).1, hJ] at s0
            have hs0 : (⟨(entA J).1.toArray⟩ : ByteArray) = ⟨#[ch J]⟩ := rfl
            rw [hs0] at s0
            have hsl : (⟨#[97, 98, 99, 100, 101, 102, 103, 104, 105, 106, 107, 108, 109, 110, 111, 112, 113, 114, 115, 116]⟩ : ByteArray).extract J (J + 1) = ⟨#[ch J]⟩ := abc_sl J hj0
            have hz1 : (i : Int) < (N : Int) := by omega
            have hw1 : IntKind.i64.wrap ((k : Int) - 1) = (k : Int) - 1 := by rw [IntKind.wrap_i64]; omega
            have hw2 : IntKind.i64.wrap ((k : Int) - 1 - (i : Int)) = (J : Int) := by rw [IntKind.wrap_i64]; omega
            have hw3 : IntKind.i64.wrap ((k : Int) - (i : Int)) = (J : Int) + 1 := by rw [IntKind.wrap_i64]; omega
            have hz2 : (J : Int) + 1 ≤ 20 := by omega
            have hz3 : (0 : Int) ≤ (J : Int) + 1 := by omega
            have hz4 : ((J : Int) + 1).toNat = J + 1 := by omega
            have hz5 : J + 1 ≤ 20 := by omega
            have hz6 : J ≤ J + 1 := by omega
            have hz7 : i < N := hlt
            clear hs0
            go_upto_region 21 with fail
            go_quiet (fail)
            go_wp2_with fail
            exact ⟨⟨i + 1, by omega, by go_num, Lib.hid (below_drewN hBi.out _)⟩, by simp [intOf]; omega⟩
          · obtain rfl : i = N := by omega
            have HBi := Lib.hid (below_then HB4.out hBi.out)
            have HEi := Lib.hid (HE4.out.below hBi.out)
            have HCi := Lib.hid (HC4.out.below hBi.out)
            clear hBi HE4 HC4 HB4
            by_cases h2 : i < 2
            · have hz1 : (i : Int) < 2 := by omega
              go_wp2_with fail
              go_ret
              exact ⟨rfl, HBi.out⟩
            · obtain ⟨r, hr⟩ : ∃ r, a % i = r := ⟨_, rfl⟩
              have hri : r < i := by rw [← hr]; exact Nat.mod_lt _ (by omega)
              have hz1 : ¬ ((i : Int) < 2) := by omega
              obtain ⟨g, rfl, hgl, _, s0, _, _⟩ := HEi.out.at_ HN.out r hri
              obtain ⟨J, hJ⟩ : ∃ J, k - 1 - r = J := ⟨_, rfl⟩
              have hj0 : J < 20 := by omega
              rw [(key_at HM4.out r (by rw [HN.out]; exact hri) (rowA_at M k r (by have := HNL.out; omega))).1, hJ] at s0
              have hs0 : (⟨(entA J).1.toArray⟩ : ByteArray) = ⟨#[ch J]⟩ := rfl
              rw [hs0] at s0
              clear hs0
              have hyA : ∃ y ∈ rowA M k, y.1 = [ch J] := ⟨entA J, List.mem_of_getElem? (hJ ▸ rowA_at M k r (by have := HNL.out; omega)), rfl⟩
              obtain ⟨y0, L2, hx1, hx2, hx3, hx4, hx5⟩ := text_head hyA
              have hL2 : ∀ y ∈ y0 :: L2, ∃ j, j < 20 ∧ y = entA j := fun y hy => rowA_mem hK2 y (text_sub _ _ y (by rw [hx1]; exact hy))
              have hl2 : (y0 :: L2).length ≤ M := by rw [List.length_cons, hx4, rowA_len]; omega
              have HX1 := Lib.hid hx1
              have HX2 := Lib.hid hx2
              have HX3 := Lib.hid hx3
              have HL2 := Lib.hid hL2
              have HLM := Lib.hid hl2
              clear hyA hx1 hx2 hx3 hx4 hx5 hL2 hl2
              go_wp2_with fail
              refine (text_k [ch J] _ HCi.out HL.out).mono ?_
              rintro r5 w5 ⟨hc5, hk5, hg5⟩
              rw [HX1.out] at hc5
              rw [HX3.out] at hg5
              obtain ⟨A5, c5, rfl, _⟩ := hg5
              have HC5 := Lib.hid hc5
              have HB5 := Lib.hid (HBi.out.trans ((HCi.out.kw_below hk5 (Nat.le_refl _)).mono hwp))
              clear hc5 hk5
              obtain ⟨Q, hQ⟩ : ∃ Q, M - 1 = Q := ⟨_, rfl⟩
              have hwQ : IntKind.i64.wrap ((M : Int) - 1) = (Q : Int) := by rw [IntKind.wrap_i64]; omega
              go_wp2_with fail
              go_loopw [17] (fun x wr => ∃ (j : Nat) (v : Value), j ≤ Q ∧ x = .int .i64 j ∧ Hid (CK wr (P + 1) P M v (rowX (y0 :: L2) M j)) ∧ Hid (Below w.heap.size w wr)) (fun x _ => Q - (intOf x).toNat)
              case atStart => exact ⟨0, _, Nat.zero_le _, rfl, Lib.hid (by have := HC5.out; rw [← List.take_of_length_le HLM.out] at this; exact this), HB5⟩
              case round =>
                obtain ⟨j, v, hj, rfl, hC, hB⟩ := hrel
                have HLj := Lib.hid (show (rowX (y0 :: L2) M j).length ≤ 549755813888 by unfold rowX; rw [List.length_take]; omega)
                by_cases hlt : j < Q
                · have hz1 : (j : Int) < (Q : Int) := by omega
                  have hz2 : j + 1 ≤ 20 := by omega
                  have hz3 : (j : Int) + 1 ≤ 20 := by omega
                  have hz4 : (0 : Int) ≤ (j : Int) + 1 := by omega
                  have hz5 : ((j : Int) + 1).toNat = j + 1 := by omega
                  have hz6 : j ≤ 20 := by omega
                  have hz7 : j ≤ j + 1 := by omega
                  have hwr : IntKind.i64.wrap ((j : Int) + 1) = (j : Int) + 1 := by rw [IntKind.wrap_i64]; omega
                  have hSk : (⟨#[97, 98, 99, 100, 101, 102, 103, 104, 105, 106, 107, 108, 109, 110, 111, 112, 113, 114, 115, 116]⟩ : ByteArray).extract j (j + 1) = ⟨#[ch j]⟩ := abc_sl j (by omega)
                  have HP := Lib.hid (rowX_put M j (by omega) HL2.out)
                  go_upto_region 30 with fail
                  go_region_with (go_at_call 9; rw [abc_i, abc_i]; refine (put_k [120, ch j] [121, ch j] none 0 0 [] _ hC.out.drew (US.none_ _ P) (Nat.le_refl _) (by omega) HLj.out).mono ?_; rintro _ w3 ⟨rfl, v3, hc3, hk3⟩; rw [HP.out] at hc3; have HC3 := Lib.hid hc3; have HB3 := Lib.hid (hB.out.drew.trans ((hC.out.drew.kw_below hk3 (Nat.le_refl _)).mono hwp)); clear hc3 hk3)
                  all_goals go_wp2_with fail
                  all_goals exact ⟨⟨j + 1, _, by omega, by go_num, HC3, HB3⟩, by simp [intOf]; omega⟩
                · obtain rfl : j = Q := by omega
                  obtain ⟨y, R, hr1, hr2, hr3, hr4, hr5⟩ := last_row (M := M) (by omega) rfl HX2.out HL2.out
                  rw [hQ] at hr1 hr2
                  go_wp2_with fail
                  refine (text_k [ch J] _ hC.out HLj.out).mono ?_
                  rintro r6 w6 ⟨hc6, hk6, hg6⟩
                  rw [hr1] at hc6
                  rw [hr2] at hg6
                  obtain ⟨A6, c6, rfl, _⟩ := hg6
                  have hb6 := hB.out.trans ((hC.out.kw_below hk6 (Nat.le_refl _)).mono hwp)
                  have b7 := below_new (Below.refl w6.heap.size w6) (.cells #[.string ⟨y.1.toArray⟩, .string ⟨y.2.1.toArray⟩, .slice A6 y.2.2.length c6] 31)
                  have HC7 := Lib.hid (hc6.below b7)
                  have HB7 := Lib.hid (below_then hb6 b7)
                  have HLR := Lib.hid (show (y :: R).length ≤ 549755813888 by rw [List.length_cons, hr5]; omega)
                  have HR3 := Lib.hid hr3
                  have HR4 := Lib.hid hr4
                  have HR5 := Lib.hid hr5
                  clear hc6 hk6 hb6 b7 hr1 hr2 hr3 hr4 hr5
                  go_wp2_with fail
                  refine (put_k [122] [122] none 0 0 [] _ HC7.out (US.none_ _ P) (Nat.le_refl _) (by omega) HLR.out).mono ?_
                  rintro _ w8 ⟨rfl, v8, hc8, hk8⟩
                  rw [HR4.out] at hc8
                  have HC8 := Lib.hid hc8
                  have HB8 := Lib.hid (HB7.out.trans ((HC7.out.kw_below hk8 (Nat.le_refl _)).mono hwp))
                  have HLZ := Lib.hid (show ((([122], [122], []) : KE) :: y :: R.take (M - 2)).length = M by have := HR5.out; simp; omega)
                  clear hc8 hk8
                  go_wp2_with fail
                  refine (all_k _ HC8.out (by rw [HLZ.out]; omega)).mono ?_
                  rintro _ w9 ⟨v9, d, rfl, hel9, _, hm9, hb9⟩
                  have hdl : d.length = M := by rw [← HLZ.out, ← hm9, List.length_map]
                  obtain ⟨A9, c9, rfl⟩ := hel9.form
                  rw [hdl] at hel9
                  rw [hdl]
                  obtain ⟨g9, rfl, hgl9, -, t0, -, -⟩ := hel9.at_ hdl 0 (by omega)
                  obtain ⟨g9', hgg, -, -, t1, -, -⟩ := hel9.at_ hdl 1 (by omega)
                  injection hgg with hgg
                  injection hgg with hgg _ _
                  subst hgg
                  rw [(key_at hm9 0 (by omega) (x := ([122], [122], [])) rfl).1] at t0
                  rw [(key_at hm9 1 (by omega) (x := y) rfl).1, HR3.out] at t1
                  have ht0 : (⟨(([122], [122], []) : KE).1.toArray⟩ : ByteArray) = ⟨#[122]⟩ := rfl
                  have ht1 : (⟨([ch J]).toArray⟩ : ByteArray) = ⟨#[ch J]⟩ := rfl
                  rw [ht0] at t0
                  rw [ht1] at t1
                  simp only [Nat.zero_mul, Nat.one_mul] at t0 t1
                  have hz1 : (0 : Int) < (M : Int) := by omega
                  have hz2 : (1 : Int) < (M : Int) := by omega
                  have hz3 : 0 < M := by omega
                  have hz4 : 1 < M := by omega
                  have HB9 := Lib.hid (below_then HB8.out hb9)
                  clear ht0 ht1 hb9 hel9 hm9
                  go_wp2_with fail
                  go_ret
                  exact ⟨rfl, HB9.out⟩
end Go.Proofs.Ytfcopniihcaefaa
