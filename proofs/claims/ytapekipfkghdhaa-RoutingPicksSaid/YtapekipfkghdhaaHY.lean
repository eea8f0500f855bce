/- The document's Hash: what it computes, of all bytes. No condition. -/
import Derived.Test.YtapekipfkghdhaaHX
namespace Go.Proofs.Ytapekipfkghdhaa
open Go.RowKit
def bI (l : List UInt8) (i : Nat) : Int := ((l.getD i 0).toNat : Int)
theorem bI_at {l : List UInt8} {i : Nat} (h : i < l.length) : (l[i].toNat : Int) = bI l i := by simp [bI, List.getD, h]
theorem le_back (l : List UInt8) (j p : Nat) (h8 : j < 8) (hp : p < l.length) : le ((l.drop p).take (j + 1)) = IntKind.u64.wrap (IntKind.u64.wrap (le ((l.drop (p + 1)).take j) * 256) + IntKind.u64.wrap (bI l p)) := by
  rw [drop_at l p hp, List.take_succ_cons, le_cons, bI_at hp]
  have h1 := le_bounds ((l.drop (p + 1)).take j)
  have h2 : (256 : Int) ^ ((l.drop (p + 1)).take j).length ≤ 256 ^ 7 := pow256_mono (by rw [List.length_take]; omega)
  have h3 : (256 : Int) ^ 7 = 72057594037927936 := rfl
  have h4 : 0 ≤ bI l p ∧ bI l p < 256 := by
    unfold bI
    have := (l.getD p 0).toNat_lt
    omega
  simp only [IntKind.wrap_u64]
  omega
def ka (l : List UInt8) (i : Nat) : Int := (ss ((l.take i).take 8) 0).foldl xr 0
def ma (l : List UInt8) (i : Nat) : Int := (ss ((l.take i).drop 8) 0).foldl xr 0
theorem sx_lo (b : UInt8) (x : Int) (h : x = (b.toNat : Int)) (h1 : x < 128) : sx b 0 = x := by
  unfold sx
  rw [if_pos (by omega), ← h]
  simp only [IntKind.wrap_u64]
  omega
theorem sx_hi (b : UInt8) (x : Int) (h : x = (b.toNat : Int)) (h1 : 128 ≤ x) : sx b 0 = IntKind.u64.wrap (x - 256) := by
  unfold sx
  rw [if_neg (by omega), ← h]
  simp only [IntKind.wrap_u64]
  omega
theorem sx_step (b : UInt8) (q : Nat) : IntKind.u64.wrap (sx b q * 256) = sx b (q + 1) := by
  unfold sx
  generalize IntKind.u64.wrap (if b.toNat < 128 then (b.toNat : Int) else (b.toNat : Int) - 256) = z
  rw [Int.pow_succ, ← Int.mul_assoc]
  generalize z * 256 ^ q = y
  simp only [IntKind.wrap_u64]
  omega
theorem ss_snoc (l : List UInt8) (b : UInt8) : ∀ j, ss (l ++ [b]) j = ss l j ++ [sx b (j + l.length)] := by
  induction l with
  | nil => intro j; rfl
  | cons c l ih =>
    intro j
    show sx c j :: ss (l ++ [b]) (j + 1) = sx c j :: (ss l (j + 1) ++ _)
    rw [ih, List.length_cons, show j + 1 + l.length = j + (l.length + 1) from by omega]
theorem ka_lo (l : List UInt8) (j : Nat) (h : j < l.length) (h8 : j < 8) : ka l (j + 1) = xr (ka l j) (sx l[j] j) := by
  unfold ka
  rw [List.take_take, List.take_take, show min 8 (j + 1) = j + 1 from by omega, show min 8 j = j from by omega, take_snoc l j h, ss_snoc, List.foldl_append, List.length_take, show 0 + min j l.length = j from by omega]
  rfl
theorem ka_hi (l : List UInt8) (j : Nat) (h8 : 8 ≤ j) : ka l (j + 1) = ka l j := by
  unfold ka
  rw [List.take_take, List.take_take, show min 8 (j + 1) = min 8 j from by omega]
theorem ma_lo (l : List UInt8) (j : Nat) (h8 : j < 8) : ma l (j + 1) = ma l j := by
  unfold ma
  rw [List.drop_of_length_le (by rw [List.length_take]; omega), List.drop_of_length_le (by rw [List.length_take]; omega)]
theorem ma_hi (l : List UInt8) (j : Nat) (h : j < l.length) (h8 : 8 ≤ j) : ma l (j + 1) = xr (ma l j) (sx l[j] (j - 8)) := by
  unfold ma
  rw [take_snoc l j h, List.drop_append_of_le_length (by rw [List.length_take]; omega), ss_snoc, List.foldl_append, List.length_drop, List.length_take, show 0 + (min j l.length - 8) = j - 8 from by omega]
  rfl
def ph (x : Int) : BitVec 64 := BitVec.ofInt 64 x
theorem ph_nat (v : BitVec 64) : ph (v.toNat : Int) = v := by
  unfold ph
  rw [BitVec.ofInt_natCast, BitVec.ofNat_toNat]
  simp
theorem xr_bv (a b : Int) : xr a b = ((ph a ^^^ ph b).toNat : Int) := by
  show IntKind.u64.wrap ((ph a ^^^ ph b).toNat : Int) = _
  have := (ph a ^^^ ph b).isLt
  rw [IntKind.wrap_u64]
  omega
theorem xr_0 {z : Int} (h0 : 0 ≤ z) (h1 : z < 18446744073709551616) : xr z 0 = z := by
  rw [xr_bv, show ph 0 = 0#64 from rfl, BitVec.xor_zero]
  unfold ph
  rw [BitVec.toNat_ofInt]
  omega
def xX (l : List Int) : BitVec 64 := l.foldr (fun s a => a ^^^ ph s) 0
theorem foldr_bv (l : List Int) : xd l = ((xX l).toNat : Int) := by
  induction l with
  | nil => rfl
  | cons s l ih =>
    show xr (xd l) s = ((xX l ^^^ ph s).toNat : Int)
    rw [ih, xr_bv, ph_nat]
theorem foldl_bv (l : List Int) : ∀ v : BitVec 64, l.foldl xr (v.toNat : Int) = ((v ^^^ xX l).toNat : Int) := by
  induction l with
  | nil => intro v; show _ = ((v ^^^ 0).toNat : Int); rw [show (0 : BitVec 64) = 0#64 from rfl, BitVec.xor_zero]; rfl
  | cons s l ih =>
    intro v
    show l.foldl xr (xr (v.toNat : Int) s) = ((v ^^^ (xX l ^^^ ph s)).toNat : Int)
    rw [xr_bv, ph_nat, ih, BitVec.xor_assoc, BitVec.xor_comm (ph s)]
theorem foldl_xd (l : List Int) : l.foldl xr 0 = xd l := by
  have := foldl_bv l 0
  rw [foldr_bv]
  rw [show (0 : BitVec 64) = 0#64 from rfl, BitVec.zero_xor] at this
  exact this
theorem kOf_asc (l : List UInt8) (j : Nat) (h : l.length = j) (h0 : 0 < j) : kOf l = fst (ka l j) := by
  unfold kOf ka
  rw [if_neg (by omega), foldl_xd, List.take_of_length_le (show l.length ≤ j by omega)]
theorem mOf_asc (l : List UInt8) (j : Nat) (h : l.length = j) (h0 : 8 < j) : mOf l = snd (ma l j) := by
  unfold mOf ma
  rw [if_neg (by omega), foldl_xd, List.take_of_length_le (show l.length ≤ j by omega)]
theorem st_rng (l : List UInt8) (t : Nat) : (0 ≤ (st l t).1 ∧ (st l t).1 < 18446744073709551616) ∧ (0 ≤ (st l t).2 ∧ (st l t).2 < 18446744073709551616) := by
  cases t with
  | zero => exact ⟨⟨by show (0 : Int) ≤ 0; omega, by show (0 : Int) < _; omega⟩, ⟨by show (0 : Int) ≤ 0; omega, by show (0 : Int) < _; omega⟩⟩
  | succ t =>
    simp only [st, step, sth, nh, ng]
    simp only [IntKind.wrap_u64]
    omega
set_option maxRecDepth 20000 in
set_option maxHeartbeats 1600000 in
theorem rhash_any {B : Nat} {A : Option Addr} {n c : Nat} {l : List UInt8} (w : World) (hl : BS w B A n c l) (hn : n ≤ 9223372036854775791) :
    Calls Try.prog 16 #[.slice A n c] w fun e w' => e = .returned (.tuple #[.int .u64 (finA (hX l) (hY l)), .int .u64 (finB (hX l) (hY l))]) ∧ w = w' := by
  have hlen := hl.len
  have hcap := hl.cap
  have hmx := hl.max
  unfold maxLen at hmx
  go_enter Try.func16, Try.ntmps16
  go_wp2_with fail
  go_loop [4, 5, 6] (fun h g a => ∃ t : Nat, 16 * t ≤ n ∧ h = .int .u64 (st l t).1 ∧ g = .int .u64 (st l t).2 ∧ a = .int .i64 ((16 * t : Nat) : Int)) (fun _ _ a => n - (intOf a).toNat)
  case atStart => exact ⟨0, by omega, rfl, rfl, rfl⟩
  case round =>
    obtain ⟨t, ht, rfl, rfl, rfl⟩ := hrel
    obtain ⟨a, ha⟩ : ∃ a, 16 * t = a := ⟨_, rfl⟩
    rw [ha] at ht ⊢
    by_cases h16 : a + 16 ≤ n
    · have hsz : n ≤ l.length := by omega
      obtain ⟨b, o, rfl, hbB, hcell⟩ := hl.at_ (by omega)
      have HC := Lib.hid hcell
      have HA := Lib.hid ha
      clear hcell ha
      go_wp2_with fail
      go_loop [7, 8, 9] (fun k m i => ∃ j : Nat, j ≤ 8 ∧ i = .int .i64 (7 - (j : Int)) ∧ k = .int .u64 (le ((l.drop (a + 8 - j)).take j)) ∧ m = .int .u64 (le ((l.drop (a + 16 - j)).take j))) (fun _ _ i => (intOf i + 1).toNat)
      case atStart => exact ⟨0, by omega, rfl, rfl, rfl⟩
      case round =>
        obtain ⟨j, hj, rfl, rfl, rfl⟩ := hrel
        by_cases hj8 : j < 8
        · obtain ⟨q, hq⟩ : ∃ q : Nat, 7 - (j : Int) = q := ⟨7 - j, by omega⟩
          have hck := (HC.out (a + q) (by omega)).trans (by rw [bI_at])
          have hck2 := (HC.out (a + 8 + q) (by omega)).trans (by rw [bI_at])
          rw [hq]
          have HQ := Lib.hid hq
          have hq8 : q < 8 := by omega
          clear hq hj8
          go_wp2_with fail
          have hqq := HQ.out
          refine ⟨⟨j + 1, by omega, by congr 1; omega, ?_, ?_⟩, by simp [intOf]⟩
          · rw [show a + 8 - j = a + q + 1 from by omega, show a + 8 - (j + 1) = a + q from by omega, le_back l j (a + q) (by omega) (by omega)]
          · rw [show a + 16 - j = a + 8 + q + 1 from by omega, show a + 16 - (j + 1) = a + 8 + q from by omega, le_back l j (a + 8 + q) (by omega) (by omega)]
        · obtain rfl : j = 8 := by omega
          rw [show a + 8 - 8 = a from by omega, show a + 16 - 8 = a + 8 from by omega]
          go_wp2_with fail
          refine (rfst_any _ _).mono ?_
          rintro e w1 ⟨rfl, rfl⟩
          go_wp2_with fail
          refine (left27 _ _).mono ?_
          rintro e w1 ⟨rfl, rfl⟩
          go_wp2_with fail
          refine (rsnd_any _ _).mono ?_
          rintro e w1 ⟨rfl, rfl⟩
          go_wp2_with fail
          refine (left31 _ _).mono ?_
          rintro e w1 ⟨rfl, rfl⟩
          go_wp2_with fail
          have hA := HA.out
          subst hA
          exact ⟨⟨t + 1, by omega, by simp only [st, step, sth, nh, xr], by simp only [st, step, sth, nh, ng, xr, List.drop_drop], by congr 1⟩, by simp [intOf]; omega⟩
    · have hta : t = n / 16 := by omega
      have HA := Lib.hid ha
      have HT := Lib.hid hta
      obtain ⟨N, hN⟩ : ∃ N : Nat, n - a = N := ⟨_, rfl⟩
      have hN16 : N < 16 := by omega
      have hNa : (n : Int) - a = N := by omega
      clear ha hta
      go_wp2_with fail
      go_loop [10, 11, 13] (fun k m i => ∃ j : Nat, j ≤ N ∧ i = .int .i64 j ∧ k = .int .u64 (ka (l.drop a) j) ∧ m = .int .u64 (ma (l.drop a) j)) (fun _ _ i => N - (intOf i).toNat)
      case atStart => exact ⟨0, by omega, rfl, rfl, rfl⟩
      case round =>
        obtain ⟨j, hj, rfl, rfl, rfl⟩ := hrel
        by_cases hjN : j < N
        · obtain ⟨b, o, rfl, hbB, hcell⟩ := hl.at_ (by omega)
          have hck := (hcell (a + j) (by omega)).trans (by rw [bI_at])
          have HL := Lib.hid (show j < (l.drop a).length by rw [List.length_drop]; omega)
          have HB := Lib.hid (show bI l (a + j) = (((l.drop a)[j]'(HL.out)).toNat : Int) by rw [List.getElem_drop, bI_at])
          obtain ⟨by_, hby⟩ : ∃ b, (l.drop a)[j]'(HL.out) = b := ⟨_, rfl⟩
          have HLB := Lib.hid hby
          rw [hby] at HB
          clear hby
          obtain ⟨x, hx⟩ : ∃ x, bI l (a + j) = x := ⟨_, rfl⟩
          have HXB := Lib.hid (show x = (by_.toNat : Int) from hx ▸ HB.out)
          have hx0 : 0 ≤ x := by rw [HXB.out]; exact Int.natCast_nonneg _
          have hx1 : x < 256 := by rw [HXB.out]; have := by_.toNat_lt; omega
          rw [hx] at hck
          clear hcell hx
          by_cases h128 : x < 128
          · go_wp2_with fail
            go_loop [14, 15] (fun y i => ∃ q : Nat, q ≤ j % 8 ∧ i = .int .i64 q ∧ y = .int .u64 (sx by_ q)) (fun _ i => 8 - (intOf i).toNat)
            case atStart => exact ⟨0, by omega, rfl, by rw [sx_lo by_ x HXB.out h128]⟩
            case round =>
              obtain ⟨q, hq, rfl, rfl⟩ := hrel
              by_cases hq8 : q < j % 8
              · go_wp2_with fail
                exact ⟨⟨q + 1, by omega, by go_num, by rw [sx_step]⟩, by simp [intOf]; omega⟩
              · obtain ⟨r, hr⟩ : ∃ r, sx by_ q = r := ⟨_, rfl⟩
                have HR := Lib.hid (show r = sx by_ (j % 8) by rw [← hr, show q = j % 8 from by omega])
                rw [hr]
                clear hr
                by_cases hj8 : j < 8
                · go_wp2_with fail
                  refine ⟨⟨j + 1, by omega, by go_num, ?_, ?_⟩, by simp [intOf]; omega⟩
                  · rw [ka_lo (l.drop a) j HL.out hj8, HLB.out, HR.out, show j % 8 = j from by omega]
                    rfl
                  · rw [ma_lo (l.drop a) j hj8]
                · go_wp2_with fail
                  refine ⟨⟨j + 1, by omega, by go_num, ?_, ?_⟩, by simp [intOf]; omega⟩
                  · rw [ka_hi (l.drop a) j (by omega)]
                  · rw [ma_hi (l.drop a) j HL.out (by omega), HLB.out, HR.out, show j % 8 = j - 8 from by omega]
                    rfl
          · go_wp2_with fail
            go_loop [14, 15] (fun y i => ∃ q : Nat, q ≤ j % 8 ∧ i = .int .i64 q ∧ y = .int .u64 (sx by_ q)) (fun _ i => 8 - (intOf i).toNat)
            case atStart => exact ⟨0, by omega, rfl, by rw [sx_hi by_ x HXB.out h128]⟩
            case round =>
              obtain ⟨q, hq, rfl, rfl⟩ := hrel
              by_cases hq8 : q < j % 8
              · go_wp2_with fail
                exact ⟨⟨q + 1, by omega, by go_num, by rw [sx_step]⟩, by simp [intOf]; omega⟩
              · obtain ⟨r, hr⟩ : ∃ r, sx by_ q = r := ⟨_, rfl⟩
                have HR := Lib.hid (show r = sx by_ (j % 8) by rw [← hr, show q = j % 8 from by omega])
                rw [hr]
                clear hr
                by_cases hj8 : j < 8
                · go_wp2_with fail
                  refine ⟨⟨j + 1, by omega, by go_num, ?_, ?_⟩, by simp [intOf]; omega⟩
                  · rw [ka_lo (l.drop a) j HL.out hj8, HLB.out, HR.out, show j % 8 = j from by omega]
                    rfl
                  · rw [ma_lo (l.drop a) j hj8]
                · go_wp2_with fail
                  refine ⟨⟨j + 1, by omega, by go_num, ?_, ?_⟩, by simp [intOf]; omega⟩
                  · rw [ka_hi (l.drop a) j (by omega)]
                  · rw [ma_hi (l.drop a) j HL.out (by omega), HLB.out, HR.out, show j % 8 = j - 8 from by omega]
                    rfl
        · obtain rfl : j = N := by omega
          have HLN := Lib.hid (show (l.drop a).length = j by rw [List.length_drop]; omega)
          have HX : hX l = xr (xr (st l t).1 (kOf (l.drop a))) (n : Int) := by unfold hX; rw [hlen, ← HT.out, HA.out]
          have HY : hY l = xr (xr (st l t).2 (mOf (l.drop a))) (n : Int) := by unfold hY; rw [hlen, ← HT.out, HA.out]
          by_cases h8 : 8 < j
          · rw [kOf_asc _ j HLN.out (by omega)] at HX
            rw [mOf_asc _ j HLN.out h8] at HY
            have HHX := Lib.hid HX
            have HHY := Lib.hid HY
            clear HX HY
            go_wp2_with fail
            refine (rsnd_any _ _).mono ?_
            rintro e w1 ⟨rfl, rfl⟩
            go_wp2_with fail
            refine (rfst_any _ _).mono ?_
            rintro e w1 ⟨rfl, rfl⟩
            go_wp2_with fail
            refine (rmixed_any _ _).mono ?_
            rintro e w1 ⟨rfl, rfl⟩
            go_wp2_with fail
            refine (rmixed_any _ _).mono ?_
            rintro e w1 ⟨rfl, rfl⟩
            go_wp2_with fail
            go_ret2
            refine ⟨?_, rfl⟩
            simp only [HHX.out, HHY.out, finA, finB, xr]
            rfl
          · by_cases h0 : j = 0
            · have hk0 : kOf (l.drop a) = 0 := by unfold kOf; rw [if_pos (by rw [HLN.out]; exact h0)]
              have hm0 : mOf (l.drop a) = 0 := by unfold mOf; rw [if_pos (by rw [HLN.out]; omega)]
              rw [hk0, xr_0 (st_rng l t).1.1 (st_rng l t).1.2] at HX
              rw [hm0, xr_0 (st_rng l t).2.1 (st_rng l t).2.2] at HY
              have HHX := Lib.hid HX
              have HHY := Lib.hid HY
              clear HX HY hk0 hm0
              go_wp2_with fail
              refine (rmixed_any _ _).mono ?_
              rintro e w1 ⟨rfl, rfl⟩
              go_wp2_with fail
              refine (rmixed_any _ _).mono ?_
              rintro e w1 ⟨rfl, rfl⟩
              go_wp2_with fail
              go_ret2
              refine ⟨?_, rfl⟩
              simp only [HHX.out, HHY.out, finA, finB, xr]
              rfl
            · have hm0 : mOf (l.drop a) = 0 := by unfold mOf; rw [if_pos (by rw [HLN.out]; omega)]
              rw [kOf_asc _ j HLN.out (by omega)] at HX
              rw [hm0, xr_0 (st_rng l t).2.1 (st_rng l t).2.2] at HY
              have HHX := Lib.hid HX
              have HHY := Lib.hid HY
              clear HX HY hm0
              go_wp2_with fail
              refine (rfst_any _ _).mono ?_
              rintro e w1 ⟨rfl, rfl⟩
              go_wp2_with fail
              refine (rmixed_any _ _).mono ?_
              rintro e w1 ⟨rfl, rfl⟩
              go_wp2_with fail
              refine (rmixed_any _ _).mono ?_
              rintro e w1 ⟨rfl, rfl⟩
              go_wp2_with fail
              go_ret2
              refine ⟨?_, rfl⟩
              simp only [HHX.out, HHY.out, finA, finB, xr]
              rfl
end Go.Proofs.Ytapekipfkghdhaa
